/- '==' on structs and arrays of numbers, truths and texts; against nil. -/
import Derived.Test.YtcggaaheaahinaaDoorAbVal
import Derived.ChangeKeysEq
namespace Ab
open Go


variable {P : Program} {m : Imm} {ρ : Rho}

def veq : Lf → Value → Value → Option Bool
  | .int k, .int k1 a, .int k2 b => if k1 = k ∧ k2 = k then some (a == b) else none
  | .bool, .bool a, .bool b => some (a == b)
  | .str, .string a, .string b => some (a.toList == b.toList)
  | _, _, _ => none

def veqs : List Lf → List Value → List Value → Option Bool
  | [], [], [] => some true
  | l :: ls, a :: as, b :: bs => match veq l a b, veqs ls as bs with
    | some x, some y => some (x && y)
    | _, _ => none
  | _, _, _ => none

theorem veq_of {l : Lf} {a b : PV} {x y : Value} {r : Bool} (h : eqCell l a b = some r) (ha : RP m a x) (hb : RP m b y) : veq l x y = some r := by
  unfold eqCell at h
  split at h
  · cases ha; cases hb; exact h
  · cases ha; cases hb; exact h
  · cases ha; cases hb; simp only [veq, toList_mk]; exact h
  · simp at h

theorem veqs_of : ∀ {ls : List Lf} {as bs : List PV} {xs ys : List Value} {r : Bool}, eqCells ls as bs = some r → xs.length = as.length → ys.length = bs.length →
    (∀ (i : Nat) (p : PV), as[i]? = some p → RP m p (xs.getD i undef)) → (∀ (i : Nat) (p : PV), bs[i]? = some p → RP m p (ys.getD i undef)) → veqs ls xs ys = some r
  | [], [], [], xs, ys, r, h, hx, hy, _, _ => by
    have : xs = [] := List.eq_nil_of_length_eq_zero hx
    have : ys = [] := List.eq_nil_of_length_eq_zero hy
    subst_vars
    simpa [eqCells, veqs] using h
  | l :: ls, a :: as, b :: bs, x :: xs, y :: ys, r, h, hx, hy, ha, hb => by
    simp only [eqCells] at h
    split at h
    · rename_i r1 r2 e1 e2
      cases h
      have k1 := veq_of e1 (by simpa using ha 0 a rfl) (by simpa using hb 0 b rfl)
      have k2 := veqs_of (xs := xs) (ys := ys) e2 (by simpa using hx) (by simpa using hy) (fun i p hp => by simpa using ha (i + 1) p (by simpa using hp)) (fun i p hp => by simpa using hb (i + 1) p (by simpa using hp))
      simp [veqs, k1, k2]
    · cases h
  | _ :: _, _ :: _, _, [], _, _, _, hx, _, _, _ => by simp at hx
  | _ :: _, _ :: _, _ :: _, _ :: _, [], _, _, _, hy, _, _ => by simp at hy
  | [], [], _ :: _, _, _, _, h, _, _, _, _ => by simp [eqCells] at h
  | [], _ :: _, _, _, _, _, h, _, _, _, _ => by simp [eqCells] at h
  | _ :: _, [], _, _, _, _, h, _, _, _, _ => by simp [eqCells] at h
  | _ :: _, _ :: _, [], _, _, _, h, _, _, _, _ => by simp [eqCells] at h

theorem veqs_length : ∀ {ls : List Lf} {xs ys : List Value} {r : Bool}, veqs ls xs ys = some r → xs.length = ls.length ∧ ys.length = ls.length
  | [], [], [], _, _ => by simp
  | l :: ls, x :: xs, y :: ys, r, h => by
    simp only [veqs] at h
    split at h
    · rename_i r1 r2 e1 e2
      have := veqs_length e2
      simp [this]
    · cases h
  | [], [], _ :: _, _, h => by simp [veqs] at h
  | [], _ :: _, _, _, h => by simp [veqs] at h
  | _ :: _, [], _, _, h => by simp [veqs] at h
  | _ :: _, _ :: _, [], _, h => by simp [veqs] at h

theorem veqs_append : ∀ {l1 l2 : List Lf} {xs ys : List Value} {r : Bool}, veqs (l1 ++ l2) xs ys = some r →
    ∃ r1 r2, veqs l1 (xs.take l1.length) (ys.take l1.length) = some r1 ∧ veqs l2 (xs.drop l1.length) (ys.drop l1.length) = some r2 ∧ r = (r1 && r2)
  | [], l2, xs, ys, r, h => ⟨true, r, by simp [veqs], by simpa using h, by simp⟩
  | l :: l1, l2, [], ys, r, h => by simp [veqs] at h
  | l :: l1, l2, x :: xs, [], r, h => by simp [veqs] at h
  | l :: l1, l2, x :: xs, y :: ys, r, h => by
    simp only [List.cons_append, veqs] at h
    split at h
    · rename_i r1 r2 e1 e2
      cases h
      obtain ⟨q1, q2, k1, k2, rfl⟩ := veqs_append e2
      exact ⟨r1 && q1, q2, by simp [veqs, e1, k1], by simpa using k2, by simp [Bool.and_assoc]⟩
    · cases h

/-- A value of a type, by its cells. -/
def Shape (P : Program) (t : TypeId) (v : Value) (cs : List Value) : Prop :=
  ∃ d, P.underlying t = some d ∧ if aggD d then ∃ arr, v = .agg arr ∧ arr.toList = cs else cs = [v]

theorem run_part (w : World) {t : TypeId} {d : TypeDesc} (hd : P.underlying t = some d) (hi : (P.info? t).isSome = true) (xs : Array Value) (off : Nat) (hs : aggD d = false → P.cellsOf t = 1) (hl : off + P.cellsOf t ≤ xs.size) :
    ∃ v, (part t xs off).run P w = .ok v w ∧ Shape P t v ((xs.toList.drop off).take (P.cellsOf t)) := by
  obtain ⟨i, hi⟩ := Option.isSome_iff_exists.1 hi
  have hc : P.cellsOf t = i.size := by simp [Program.cellsOf, hi]
  cases ha : aggD d with
  | true =>
    refine ⟨.agg (xs.extract off (off + i.size)), ?_, d, hd, ?_⟩
    · simp [part, run_agg hd, ha, run_size hi]
    · rw [if_pos ha]
      exact ⟨_, rfl, by rw [hc, Array.toList_extract]; simp [List.extract]⟩
  | false =>
    have h1 := hs ha
    have hlt : off < xs.size := by omega
    refine ⟨xs[off], ?_, d, hd, ?_⟩
    · simp [part, run_agg hd, ha, hlt]
    · rw [ha, if_neg (by simp), h1]
      rw [List.drop_eq_getElem_cons (by simpa using hlt)]
      simp

theorem leaves_one {dep : Nat} {t : TypeId} {ls : List Lf} {d : TypeDesc} (h : leaves P dep t = some ls) (hd : P.underlying t = some d) (ha : aggD d = false) : ls.length = 1 := by
  cases dep with
  | zero => simp [leaves] at h
  | succ dep =>
    simp only [leaves, hd] at h
    cases d <;> simp [aggD] at ha <;> simp at h <;> (try (subst h; rfl))

def EqLeaf (P : Program) (lv : TypeId → Option (List Lf)) (d : Nat) : Prop :=
  ∀ (w : World) (t : TypeId) (ls : List Lf) (x y : Value) (xs ys : List Value) (r : Bool), lv t = some ls → Shape P t x xs → Shape P t y ys → veqs ls xs ys = some r → (Op.equalIn d t x y).run P w = .ok r w

theorem eqItems_ok (w : World) {d : Nat} {e : TypeId} {dep : Nat} {l : List Lf} (ih : EqLeaf P (leaves P dep) d) (hl : leaves P dep e = some l) (hlen : l.length = P.cellsOf e) (hi : (P.info? e).isSome = true) (hpos : 0 < l.length) {de : TypeDesc} (hd : P.underlying e = some de) (xs ys : Array Value) :
    ∀ (k s : Nat) (r : Bool), veqs (List.replicate k l).flatten (xs.toList.drop (s * P.cellsOf e)) (ys.toList.drop (s * P.cellsOf e)) = some r →
      (Op.eqItems d e (P.cellsOf e) xs ys (List.range' s k)).run P w = .ok r w
  | 0, s, r, h => by
    have h1 := (veqs_length h)
    simp only [List.replicate_zero, List.flatten_nil, List.length_nil] at h1
    rw [List.eq_nil_of_length_eq_zero h1.1, List.eq_nil_of_length_eq_zero h1.2] at h
    simp [veqs] at h
    subst h
    simp [Op.eqItems]
  | k + 1, s, r, h => by
    rw [List.replicate_succ, List.flatten_cons] at h
    have hlen2 := veqs_length h
    obtain ⟨r1, r2, e1, e2, rfl⟩ := veqs_append h
    simp only [List.length_append, List.length_drop, Array.length_toList] at hlen2
    have one : aggD de = false → P.cellsOf e = 1 := fun ha => by rw [← hlen]; exact leaves_one hl hd ha
    obtain ⟨a, pa, sa⟩ := run_part w hd hi xs (s * P.cellsOf e) one (by omega)
    obtain ⟨b, pb, sb⟩ := run_part w hd hi ys (s * P.cellsOf e) one (by omega)
    rw [hlen] at e1 e2
    have q1 := ih w e l a b _ _ r1 hl sa sb e1
    rw [List.drop_drop, List.drop_drop, show s * P.cellsOf e + P.cellsOf e = (s + 1) * P.cellsOf e by rw [Nat.succ_mul]] at e2
    have q2 := eqItems_ok w ih hl hlen hi hpos hd xs ys k (s + 1) r2 e2
    simp only [List.range'_succ, Op.eqItems, Sem.run_bind, pa, pb, q1, Result.andThen_ok]
    cases r1 with
    | false => simp
    | true => simpa using q2

theorem eqFields_ok (w : World) {d dep : Nat} (ih : EqLeaf P (leaves P dep) d) (xs ys : Array Value) : ∀ (fs : List Field) (off : Nat) (ls : List Lf) (r : Bool), leafFields P (leaves P dep) fs off = some ls →
    veqs ls (xs.toList.drop off) (ys.toList.drop off) = some r → (Op.eqFields d xs ys fs).run P w = .ok r w
  | [], off, ls, r, h, hv => by
    simp [leafFields] at h
    subst h
    have h1 := veqs_length hv
    rw [List.eq_nil_of_length_eq_zero h1.1, List.eq_nil_of_length_eq_zero h1.2] at hv
    simp [veqs] at hv
    subst hv
    simp [Op.eqFields]
  | f :: fs, off, ls, r, h, hv => by
    simp only [leafFields, Option.bind_eq_bind, Option.bind_eq_some_iff] at h
    obtain ⟨l, h1, rest, h2, h3⟩ := h
    split at h3
    · rename_i hc
      obtain ⟨c1, c2, c3, c4, c5⟩ := hc
      cases h3
      have hlen2 := veqs_length hv
      obtain ⟨r1, r2, e1, e2, rfl⟩ := veqs_append hv
      simp only [List.length_append, List.length_drop, Array.length_toList] at hlen2
      cases hd : P.underlying f.type with
      | none => cases dep <;> simp [leaves, hd] at h1
      | some de =>
        have one : aggD de = false → P.cellsOf f.type = 1 := fun ha => by rw [← c3]; exact leaves_one h1 hd ha
        obtain ⟨a, pa, sa⟩ := run_part w hd c4 xs f.offset one (by omega)
        obtain ⟨b, pb, sb⟩ := run_part w hd c4 ys f.offset one (by omega)
        rw [← c2, c3] at e1
        have q1 := ih w f.type l a b _ _ r1 h1 sa sb e1
        rw [List.drop_drop, List.drop_drop] at e2
        have q2 := eqFields_ok w ih xs ys fs (off + l.length) rest r2 h2 e2
        simp only [Op.eqFields, ne_eq, c1, not_false_eq_true, if_true, Sem.run_bind, pa, pb, q1, Result.andThen_ok]
        cases r1 with
        | false => simp
        | true => simpa using q2
    · simp at h3

theorem veqs_one {l : Lf} {x y : Value} {r : Bool} (h : veqs [l] [x] [y] = some r) : veq l x y = some r := by
  simp only [veqs] at h
  split at h
  · rename_i r1 r2 e1 e2
    cases h
    simp at e2
    subst e2
    simpa using e1
  · cases h

theorem veq_int {k : IntKind} {x y : Value} {r : Bool} (h : veq (.int k) x y = some r) : ∃ a b, x = .int k a ∧ y = .int k b ∧ r = (a == b) := by
  cases x <;> cases y <;> simp [veq] at h
  obtain ⟨⟨rfl, rfl⟩, rfl⟩ := h
  exact ⟨_, _, rfl, rfl, rfl⟩
theorem veq_bool {x y : Value} {r : Bool} (h : veq .bool x y = some r) : ∃ a b, x = .bool a ∧ y = .bool b ∧ r = (a == b) := by
  cases x <;> cases y <;> simp [veq] at h
  exact ⟨_, _, rfl, rfl, h.symm⟩
theorem veq_str {x y : Value} {r : Bool} (h : veq .str x y = some r) : ∃ a b, x = .string a ∧ y = .string b ∧ r = (a.toList == b.toList) := by
  cases x <;> cases y <;> simp only [veq] at h <;> first | (cases h; exact ⟨_, _, rfl, rfl, rfl⟩) | cases h

theorem eq_leaf (d : Nat) : ∀ (dep : Nat), EqLeaf P (leaves P dep) (d + dep)
  | 0 => fun w t ls x y xs ys r h => by simp [leaves] at h
  | dep + 1 => by
    intro w t ls x y xs ys r h hx hy hv
    have ih := eq_leaf d dep
    obtain ⟨de, hd, hx⟩ := hx
    obtain ⟨de', hd', hy⟩ := hy
    rw [hd] at hd'
    cases hd'
    simp only [leaves, hd] at h
    have hplus : d + (dep + 1) = (d + dep) + 1 := rfl
    cases de with
    | int k =>
      simp at h; subst h
      simp [aggD] at hx hy
      subst hx hy
      obtain ⟨a, b, rfl, rfl, rfl⟩ := veq_int (veqs_one hv)
      rw [hplus]
      exact run_equalIn_int w _ t _ _ _ _ hd
    | bool =>
      simp at h; subst h
      simp [aggD] at hx hy
      subst hx hy
      obtain ⟨a, b, rfl, rfl, rfl⟩ := veq_bool (veqs_one hv)
      rw [hplus]
      exact run_equalIn_bool' w _ t _ _ hd
    | string =>
      simp at h; subst h
      simp [aggD] at hx hy
      subst hx hy
      obtain ⟨a, b, rfl, rfl, rfl⟩ := veq_str (veqs_one hv)
      rw [hplus]
      exact run_equalIn_string w _ t _ _ hd
    | array n e =>
      simp only [Option.bind_eq_bind, Option.bind_eq_some_iff] at h
      obtain ⟨l, h1, h2⟩ := h
      split at h2
      · rename_i hc
        cases h2
        simp only [aggD, if_true] at hx hy
        obtain ⟨ax, rfl, rfl⟩ := hx
        obtain ⟨ay, rfl, rfl⟩ := hy
        obtain ⟨i, hi⟩ := Option.isSome_iff_exists.1 hc.2.1
        rw [hplus, run_equalIn_array w _ ax ay hd hi]
        cases hde : P.underlying e with
        | none => cases dep <;> simp [leaves, hde] at h1
        | some de' =>
          rw [List.range_eq_range']
          exact eqItems_ok w ih h1 hc.1 hc.2.1 hc.2.2 hde ax ay n 0 r (by simpa using hv)
      · simp at h2
    | struct fs =>
      simp only at h
      split at h
      · simp at h
      · rename_i hst
        simp only [aggD, if_true] at hx hy
        obtain ⟨ax, rfl, rfl⟩ := hx
        obtain ⟨ay, rfl, rfl⟩ := hy
        have hf : P.fieldsOf t = fs := by simp [Program.fieldsOf, hd]
        rw [hplus, run_equalIn_struct w _ t ax ay (by rw [hf]; exact hd) (by simpa using hst), hf]
        exact eqFields_ok w ih ax ay fs.toList 0 ls r h (by simpa using hv)
    | _ => simp at h

theorem eqRes_ok {op : BinOp} {r : Bool} {v : V} (h : eqRes op r = some v) : (op = .eql ∧ v = .pv (.bool r)) ∨ (op = .neq ∧ v = .pv (.bool (!r))) := by
  cases op <;> simp [eqRes] at h <;> simp [h]

theorem eqRes_run (w : World) {op : BinOp} {t : TypeId} {r : Bool} {v : V} {x y : Value} (h : eqRes op r = some v) (hb : (∀ k n, x ≠ .int k n) ∧ (∀ k n, x ≠ .float k n) ∧ (∀ k n c, x ≠ .complex k n c) ∧ (∀ s, x ≠ .string s))
    (he : (Op.equal t x y).run P w = .ok r w) : ∃ cv, (binOp op t x y).run P w = .ok cv w ∧ R m ρ v cv := by
  obtain ⟨b1, b2, b3, b4⟩ := hb
  rcases eqRes_ok h with ⟨rfl, rfl⟩ | ⟨rfl, rfl⟩
  · refine ⟨.bool r, ?_, .pv _ _ (.bool r)⟩
    cases x <;> first | exact absurd rfl (b1 _ _) | exact absurd rfl (b2 _ _) | exact absurd rfl (b3 _ _ _) | exact absurd rfl (b4 _) | simp [binOp, he]
  · refine ⟨.bool (!r), ?_, .pv _ _ (.bool _)⟩
    cases x <;> first | exact absurd rfl (b1 _ _) | exact absurd rfl (b2 _ _) | exact absurd rfl (b3 _ _ _) | exact absurd rfl (b4 _) | simp [binOp, he]

theorem R.agg_pure {ps : List PV} {cv : Value} (h : R m ρ (.pv (.agg ps)) cv) : ∃ vs : Array Value, cv = .agg vs ∧ vs.size = ps.length ∧ (∀ c ∈ ps, c.isCell = true) ∧ ∀ (j : Nat) (c : PV), ps[j]? = some c → RP m c (vs.getD j undef) := by
  cases h with | pv _ _ h => cases h with | agg _ vs hc hl hr => exact ⟨vs, rfl, hl, hc, hr⟩

/-- What is nil, and what is not, of pointers, slices and functions. -/
def nilV : NilK → Value → Option Bool
  | .ptr, .pointer a => some a.isNone
  | .sl, .slice a _ _ => some a.isNone
  | .fn, .nilFunc => some true
  | .fn, .func _ _ _ => some false
  | _, _ => none

theorem isNil_ok {k : NilK} {x : V} {cv : Value} {b : Bool} (h : isNil? k x = some b) (hx : R m ρ x cv) : nilV k cv = some b := by
  unfold isNil? at h
  split at h <;> simp at h <;> subst h <;> cases hx <;> (try rename_i hp) <;> (try (cases hp)) <;> simp [nilV]

def nilD : NilK → TypeDesc → Prop
  | .ptr, .pointer _ => True
  | .sl, .slice _ => True
  | .fn, .func _ _ _ => True
  | _, _ => False

theorem nil_run' (w : World) (n : Nat) {k : NilK} {t : TypeId} {d : TypeDesc} {x y : Value} {a b : Bool} (hd : P.underlying t = some d) (hk : nilD k d) (hx : nilV k x = some a) (hy : nilV k y = some b) (h : a = true ∨ b = true) :
    (Op.equalIn (n + 1) t x y).run P w = .ok (a && b) w := by
  cases k <;> cases d <;> simp [nilD] at hk
  · cases x <;> simp [nilV] at hx
    cases y <;> simp [nilV] at hy
    rename_i p q
    cases p <;> cases q <;> simp at hx hy <;> subst hx hy <;> simp at h <;> simp only [Op.equalIn, Sem.run_bind, run_underlying hd, Result.andThen_ok] <;> rfl
  · cases x <;> simp [nilV] at hx
    cases y <;> simp [nilV] at hy
    rename_i p _ _ q _ _
    cases p <;> cases q <;> simp at hx hy <;> subst hx hy <;> simp at h <;> simp only [Op.equalIn, Sem.run_bind, run_underlying hd, Result.andThen_ok] <;> rfl
  · cases x <;> simp [nilV] at hx <;> cases y <;> simp [nilV] at hy <;> subst hx hy <;> simp at h <;> simp only [Op.equalIn, Sem.run_bind, run_underlying hd, Result.andThen_ok] <;> rfl

theorem nil_run (w : World) {k : NilK} {t : TypeId} {d : TypeDesc} {x y : Value} {a b : Bool} (hd : P.underlying t = some d) (hk : nilD k d) (hx : nilV k x = some a) (hy : nilV k y = some b) (h : a = true ∨ b = true) :
    (Op.equal t x y).run P w = .ok (a && b) w := nil_run' w 9999 hd hk hx hy h

theorem nan_of (k : FloatKind) : nanB k (nanOf k) = true := by cases k <;> decide +kernel
theorem R.fltX {k : FloatKind} {a : Nat} {cv : Value} (h : R m ρ (.pv (.flt k a)) cv) : ∃ a', cv = .float k a' ∧ (a = a' ∨ (a = nanOf k ∧ nanB k a' = true)) := by
  cases h with | pv _ _ h => cases h with | flt _ _ b' h => exact ⟨b', rfl, h⟩
theorem R.flt {k : FloatKind} {a : Nat} {cv : Value} (h : R m ρ (.pv (.flt k a)) cv) : ∃ a', cv = .float k a' ∧ (a = a' ∨ (nanB k a = true ∧ nanB k a' = true)) := by
  obtain ⟨a', h1, h2⟩ := h.fltX
  exact ⟨a', h1, h2.imp id fun h => ⟨by rw [h.1]; exact nan_of k, h.2⟩⟩

theorem guard_flt {op : BinOp} {t : TypeId} {X Y : Operand} {k k' : FloatKind} {a b : Nat} (w : World) : (eqGuard op t X Y (.float k a) (.float k' b)).run P w = .ok () w := by
  cases op <;> simp [eqGuard]

theorem ord_nan {k : FloatKind} {a b : Nat} (h : nanB k a = true ∨ nanB k b = true) : k.format.order a b = none := by
  have hd : ∀ x : Nat, nanB k x = true → ∃ s p, k.format.read x = .nan s p := by
    intro x hx
    unfold nanB at hx
    have : k.decode x = k.format.read x := rfl
    rw [this] at hx
    cases hr : k.format.read x with
    | nan s p => exact ⟨s, p, rfl⟩
    | _ => rw [hr] at hx; simp [Ieee.Datum.isNaN] at hx
  unfold Ieee.Format.order
  rcases h with h | h
  · obtain ⟨s, p, e⟩ := hd a h
    rw [e]; rfl
  · obtain ⟨s, p, e⟩ := hd b h
    rw [e]
    cases k.format.read a <;> rfl

theorem fltOrd_eq {k : FloatKind} {a b a' b' : Nat} (ha : a = a' ∨ (nanB k a = true ∧ nanB k a' = true)) (hb : b = b' ∨ (nanB k b = true ∧ nanB k b' = true)) : k.format.order a' b' = fltOrd k a b := by
  unfold fltOrd
  split
  · rename_i hn
    simp only [Bool.or_eq_true] at hn
    apply ord_nan
    rcases hn with hn | hn
    · left; rcases ha with rfl | ha
      · exact hn
      · exact ha.2
    · right; rcases hb with rfl | hb
      · exact hn
      · exact hb.2
  · rename_i hn
    simp only [Bool.or_eq_true, not_or, Bool.not_eq_true] at hn
    obtain rfl : a = a' := ha.resolve_right (by simp [hn.1])
    obtain rfl : b = b' := hb.resolve_right (by simp [hn.2])
    rfl

theorem fltBin_ok (w : World) (op : BinOp) (t : TypeId) {k k' : FloatKind} {a b a' b' : Nat} (ha : a = a' ∨ (nanB k a = true ∧ nanB k a' = true)) (hb : b = b' ∨ (nanB k' b = true ∧ nanB k' b' = true)) {p : PV} (h : fltBin op k a k' b = some p) :
    ∃ cv, (binOp op t (.float k a') (.float k' b')).run P w = .ok cv w ∧ RP m p cv := by
  unfold fltBin at h
  split at h
  · cases h
  rename_i hk
  have hk : k = k' := Classical.not_not.1 hk
  subst hk
  have ho := fltOrd_eq ha hb
  have arith : ∀ {r : Option Nat}, (if nanB k a || nanB k b then none else r.map (PV.flt k)) = some p → a = a' ∧ b = b' ∧ ∃ x, r = some x ∧ p = .flt k x := by
    intro r h
    split at h
    · cases h
    · rename_i hn
      simp only [Bool.or_eq_true, not_or, Bool.not_eq_true] at hn
      simp only [Option.map_eq_some_iff] at h
      obtain ⟨x, h1, h2⟩ := h
      exact ⟨ha.resolve_right (by simp [hn.1]), hb.resolve_right (by simp [hn.2]), x, h1, h2.symm⟩
  cases op <;> simp only [Option.some.injEq] at h
  case add => obtain ⟨rfl, rfl, x, h1, rfl⟩ := arith h; exact ⟨.float k x, by simp [binOp, Op.floatArith, h1], .flt _ _ _ (.inl rfl)⟩
  case sub => obtain ⟨rfl, rfl, x, h1, rfl⟩ := arith h; exact ⟨.float k x, by simp [binOp, Op.floatArith, h1], .flt _ _ _ (.inl rfl)⟩
  case mul => obtain ⟨rfl, rfl, x, h1, rfl⟩ := arith h; exact ⟨.float k x, by simp [binOp, Op.floatArith, h1], .flt _ _ _ (.inl rfl)⟩
  case quo => obtain ⟨rfl, rfl, x, h1, rfl⟩ := arith h; exact ⟨.float k x, by simp [binOp, Op.floatArith, h1], .flt _ _ _ (.inl rfl)⟩
  all_goals first
    | (cases h; done)
    | (subst h; exact ⟨_, by simp [binOp, Op.floatCmp, ho], .bool _⟩)
    | (subst h; exact ⟨_, by simp [binOp, Op.floatCmp, ho]; rfl, .bool _⟩)

/-- ALL OPERATORS OF TWO OPERANDS. -/
theorem bin_ok (w : World) {op : BinOp} {t : TypeId} {ek : EqK} {x y v : V} {cx cy : Value} (X Y : Operand) (ht : trBin P op t = some ek) (h : binA op ek x y = some v) (hx : R m ρ x cx) (hy : R m ρ y cy) :
    ∃ cv, (do eqGuard op t X Y cx cy; binOp op t cx cy : Sem Value).run P w = .ok cv w ∧ R m ρ v cv := by
  cases ek with
  | no =>
    simp only [binA] at h
    split at h
    · rename_i k a k' b
      have := hx.int; subst this
      have := hy.int; subst this
      simp only [Option.map_eq_some_iff] at h
      obtain ⟨p, hp, rfl⟩ := h
      obtain ⟨cv, h1, h2⟩ := intBin_ok (m := m) (P := P) w op t hp
      exact ⟨cv, by rw [Sem.run_bind, guard_int, Result.andThen_ok, h1], .pv _ _ h2⟩
    · have := hx.str; subst this
      have := hy.str; subst this
      simp only [Option.map_eq_some_iff] at h
      obtain ⟨p, hp, rfl⟩ := h
      obtain ⟨cv, h1, h2⟩ := strBin_ok (m := m) (P := P) w op t hp
      exact ⟨cv, by rw [Sem.run_bind, guard_str, Result.andThen_ok, h1], .pv _ _ h2⟩
    · rename_i k a k' b
      obtain ⟨a', rfl, ha⟩ := hx.flt
      obtain ⟨b', rfl, hb⟩ := hy.flt
      simp only [Option.map_eq_some_iff] at h
      obtain ⟨p, hp, rfl⟩ := h
      obtain ⟨cv, h1, h2⟩ := fltBin_ok (m := m) (P := P) w op t ha hb hp
      exact ⟨cv, by rw [Sem.run_bind, guard_flt, Result.andThen_ok, h1], .pv _ _ h2⟩
    · simp at h
  | bool =>
    simp only [binA] at h
    split at h
    · rename_i a b
      have := hx.bool; subst this
      have := hy.bool; subst this
      have hop := eqRes_ok h
      have ht' : eqK P t = some .bool := by
        rcases hop with ⟨rfl, _⟩ | ⟨rfl, _⟩ <;> exact ht
      have hd : P.underlying t = some .bool := by
        unfold eqK at ht'
        split at ht' <;> (try (first | assumption | (simp at ht'; done)))
        all_goals (simp only [Option.bind_eq_bind, Option.bind_eq_some_iff] at ht'; obtain ⟨l, _, h2⟩ := ht'; split at h2 <;> simp at h2)
      obtain ⟨cv, h1, h2⟩ := eqRes_run (m := m) (ρ := ρ) (P := P) (t := t) (x := .bool a) (y := .bool b) w h ⟨by simp, by simp, by simp, by simp⟩ (run_equalIn_bool' w 9999 t a b hd)
      refine ⟨cv, ?_, h2⟩
      rw [Sem.run_bind, show (eqGuard op t X Y (.bool a) (.bool b)).run P w = .ok () w by cases op <;> simp [eqGuard], Result.andThen_ok, h1]
    · simp at h
  | nil k =>
    simp only [binA] at h
    split at h
    · rename_i r hr
      have hop := eqRes_ok h
      have ht' : eqK P t = some (.nil k) := by
        rcases hop with ⟨rfl, _⟩ | ⟨rfl, _⟩ <;> exact ht
      have hd : ∃ d, P.underlying t = some d ∧ nilD k d := by
        unfold eqK at ht'
        split at ht' <;> (try (simp at ht'; done))
        · simp at ht'; subst ht'; refine ⟨_, by assumption, ?_⟩; trivial
        · simp at ht'; subst ht'; refine ⟨_, by assumption, ?_⟩; trivial
        · simp at ht'; subst ht'; refine ⟨_, by assumption, ?_⟩; trivial
        all_goals (simp only [Option.bind_eq_bind, Option.bind_eq_some_iff] at ht'; obtain ⟨l, _, h2⟩ := ht'; split at h2 <;> simp at h2)
      obtain ⟨d, hd, hk⟩ := hd
      have hab : ∃ a b, isNil? k x = some a ∧ isNil? k y = some b ∧ (a = true ∨ b = true) ∧ r = (a && b) := by
        simp only [eqNil] at hr
        split at hr
        · rename_i a b e1 e2
          split at hr
          · rename_i hor
            cases hr
            exact ⟨a, b, e1, e2, by simpa using hor, rfl⟩
          · simp at hr
        · simp at hr
      obtain ⟨a, b, ha, hb, hor, rfl⟩ := hab
      have na := isNil_ok ha hx
      have nb := isNil_ok hb hy
      have he := nil_run w hd hk na nb hor
      have sh : (∀ k n, cx ≠ .int k n) ∧ (∀ k n, cx ≠ .float k n) ∧ (∀ k n c, cx ≠ .complex k n c) ∧ (∀ s, cx ≠ .string s) := by
        cases k <;> cases cx <;> simp [nilV] at na <;> simp
      obtain ⟨cv, h1, h2⟩ := eqRes_run (m := m) (ρ := ρ) w h sh he
      refine ⟨cv, ?_, h2⟩
      have hg : (eqGuard op t X Y cx cy).run P w = .ok () w := by
        cases k <;> cases cx <;> simp [nilV] at na <;> cases cy <;> simp [nilV] at nb <;> cases op <;> simp [eqGuard]
      rw [Sem.run_bind, hg, Result.andThen_ok, h1]
    · simp at h
  | cells ls =>
    simp only [binA] at h
    split at h
    · rename_i as bs
      split at h
      · rename_i r hr
        have hop := eqRes_ok h
        have ht' : eqK P t = some (.cells ls) := by
          rcases hop with ⟨rfl, _⟩ | ⟨rfl, _⟩ <;> exact ht
        have hd : leaves P 50 t = some ls ∧ P.eqGuardType P.depth t = false ∧ ∃ d, P.underlying t = some d ∧ aggD d = true := by
          unfold eqK at ht'
          split at ht' <;> (try (simp at ht'; done))
          all_goals
            simp only [Option.bind_eq_bind, Option.bind_eq_some_iff] at ht'
            obtain ⟨l, h1, h2⟩ := ht'
            split at h2
            · rename_i hg
              simp at h2
              subst h2
              exact ⟨h1, hg, _, by assumption, rfl⟩
            · simp at h2
        obtain ⟨hl, hgt, d, hd, ha⟩ := hd
        obtain ⟨xs, rfl, e1, _, e2⟩ := hx.agg_pure
        obtain ⟨ys, rfl, f1, _, f2⟩ := hy.agg_pure
        have hv := veqs_of (xs := xs.toList) (ys := ys.toList) hr (by simpa using e1) (by simpa using f1) (fun i p hp => by simpa [Array.getD_eq_getD_getElem?] using e2 i p hp) (fun i p hp => by simpa [Array.getD_eq_getD_getElem?] using f2 i p hp)
        have he : (Op.equal t (.agg xs) (.agg ys)).run P w = .ok r w := eq_leaf 9950 50 w t ls _ _ xs.toList ys.toList r hl ⟨d, hd, by rw [if_pos ha]; exact ⟨xs, rfl, rfl⟩⟩ ⟨d, hd, by rw [if_pos ha]; exact ⟨ys, rfl, rfl⟩⟩ hv
        obtain ⟨cv, h1, h2⟩ := eqRes_run (m := m) (ρ := ρ) w h ⟨by simp, by simp, by simp, by simp⟩ he
        refine ⟨cv, ?_, h2⟩
        have hg : (eqGuard op t X Y (.agg xs) (.agg ys)).run P w = .ok () w := by
          cases op <;> simp [eqGuard, hgt]
        rw [Sem.run_bind, hg, Result.andThen_ok, h1]
      · simp at h
    · simp at h

end Ab
