/- Functions without a body, whose answers the model tells itself. -/
import Derived.Test.YtcggaaheaahinaaDoorAbTable
import Derived.Laws.Externs
namespace Ab
open Go


variable {P : Program}

/-- A body-less function's answer. -/
theorem AnsOk.extern [Base] {f : FuncId} {fn : Func} {e : Array Value → Sem Value} (hf : P.funcs[f]? = some fn) (hname : (fn.name == "runtime.NumGoroutine") = false) (hb : fn.body.isNone = true) (hn : Extern.findNext fn = none) (he : Extern.find fn = some e)
    {ps rs : List PV} (h : ∀ (m : Imm) (w : World) (cvs : Array Value), Sim m (fun _ => none) (fun _ => .dead) w → cvs.size = ps.length → (∀ (j : Nat) (p : PV), ps[j]? = some p → RP m p (cvs.getD j undef)) →
      ∃ cv, (e cvs).run P w = .ok cv w ∧ R m (fun _ => none) (mkRes rs) cv) : AnsOk P f ps rs := by
  intro m w cvs hs hsz hR a o next Q hnext
  obtain ⟨cv, h1, h2⟩ := h m w cvs hs hsz hR
  rw [run_callFunc_extern hf hname hb hn he, h1]
  exact hnext cv w m h2 hs (Step.refl _ _ _ _ _ hs (fun _ _ h => by simp [live] at h))

theorem run_loadBytes {w : World} {b o : Nat} (f : Nat → Value) : ∀ (l : List UInt8) (off : Nat) (acc : ByteArray), (∀ j x, l[j]? = some x → ∃ n, f (off + j) = .int .u8 n ∧ x = UInt8.ofNat n.toNat ∧ w.cell? ⟨b, o + (off + j), none⟩ = some (f (off + j))) →
    (Extern.Bytes.loadBytes ⟨b, o + off, none⟩ l.length acc).run P w = .ok ⟨(acc.data.toList ++ l).toArray⟩ w
  | [], off, acc, _ => by simp [Extern.Bytes.loadBytes]
  | x :: l, off, acc, h => by
    obtain ⟨n, h1, h2, h3⟩ := h 0 x rfl
    have ih := run_loadBytes (w := w) (b := b) (o := o) f l (off + 1) (acc.push (UInt8.ofNat n.toNat)) (fun j y hy => by
      have := h (j + 1) y (by simpa using hy)
      rw [show off + 1 + j = off + (j + 1) by omega]
      exact this)
    rw [Nat.add_zero] at h1 h3
    have e1 : (Addr.add ⟨b, o + off, none⟩ 1) = ⟨b, o + (off + 1), none⟩ := rfl
    simp only [List.length_cons, Extern.Bytes.loadBytes, Sem.run_bind, run_load, h3, h1, Result.andThen_ok, e1]
    rw [show n.toNat.toUInt8 = UInt8.ofNat n.toNat from rfl, ih, h2]
    simp

/-- A pure slice of bytes, read by the model's own functions. -/
theorem run_bytesOf {m : Imm} {w : World} (hm : ∀ b o v, m b o = some v → w.cell? ⟨b, o, none⟩ = some v) {es : List PV} {l : List UInt8} {cv : Value} (hr : RP m (.sl es) cv) (hl : bytesOf? es = some l) :
    (Extern.Bytes.bytesOf cv).run P w = .ok ⟨l.toArray⟩ w := by
  obtain ⟨k1, k2, k3⟩ := bytesOf_ok hl
  cases hr with
  | sl0 a cap =>
    have : l = [] := List.eq_nil_of_length_eq_zero (by simpa using k1)
    subst this
    cases a with
    | none => simp [Extern.Bytes.bytesOf]; rfl
    | some a => simp [Extern.Bytes.bytesOf, Extern.Bytes.loadBytes]; rfl
  | sl es b o cap sz f hsz hcell hcap hm2 hr2 =>
    have hflat : es.flatMap PV.cells = es := by
      have : ∀ (l : List PV), (∀ e ∈ l, e.cells = [e]) → l.flatMap PV.cells = l := by
        intro l
        induction l with
        | nil => intro _; rfl
        | cons x l ih => intro hl; rw [List.flatMap_cons, hl x (by simp), ih fun e he => hl e (by simp [he])]; rfl
      exact this es k2
    rw [hflat] at hm2 hr2
    have := run_loadBytes (P := P) (w := w) (b := b) (o := o) f l 0 .empty (fun j x hx => by
      have hj : j < es.length := by have := (List.getElem?_eq_some_iff.1 hx).1; omega
      obtain ⟨n, e1, e2⟩ := k3 j _ (List.getElem?_eq_getElem hj)
      have c1 := hm2 j _ (List.getElem?_eq_getElem hj)
      have c2 := hr2 j _ (List.getElem?_eq_getElem hj)
      rw [e1] at c2
      rw [Nat.zero_add]
      refine ⟨n, ?_, ?_, hm _ _ _ c1⟩
      · cases c3 : f j <;> rw [c3] at c2 <;> cases c2; rfl
      · rw [hx] at e2; exact Option.some.inj e2)
    rw [k1] at this
    simpa [Extern.Bytes.bytesOf] using this

/-- Bytes compared, one by one. -/
def cmpB : List UInt8 → List UInt8 → Int
  | [], [] => 0
  | [], _ :: _ => -1
  | _ :: _, [] => 1
  | a :: as, b :: bs => if a = b then cmpB as bs else if a < b then -1 else 1

theorem cmp_eq (a b : List UInt8) : Extern.BytealgCompare.cmp ⟨a.toArray⟩ ⟨b.toArray⟩ = cmpB a b := by
  have get : ∀ (l : List UInt8) (i : Nat), (⟨l.toArray⟩ : ByteArray)[i]! = l.getD i 0 := by
    intro l i
    simp only [getElem!_def, getElem?_def]
    by_cases hi : i < l.length
    · rw [dif_pos (by simpa [ByteArray.size] using hi)]
      simp [List.getD, hi]; rfl
    · rw [dif_neg (by simpa [ByteArray.size] using hi)]
      simp [List.getD, List.getElem?_eq_none (Nat.le_of_not_lt hi)]; rfl
  have size : ∀ l : List UInt8, (⟨l.toArray⟩ : ByteArray).size = l.length := fun l => by simp [ByteArray.size]
  unfold Extern.BytealgCompare.cmp
  simp only [get, size]
  induction a generalizing b with
  | nil => cases b <;> simp [cmpB]
  | cons x a ih =>
    cases b with
    | nil => simp [cmpB]
    | cons y b =>
      simp only [List.length_cons, cmpB, Nat.succ_min_succ, List.range_succ_eq_map, List.find?_cons, List.getD_cons_zero]
      by_cases hxy : x = y
      · subst hxy
        simp only [bne_self_eq_false, if_true, List.find?_map, Function.comp_def, List.getD_cons_succ]
        rw [← ih b]
        cases hfi : (List.range (min a.length b.length)).find? fun i => a.getD i 0 != b.getD i 0 with
        | none => simp
        | some i => simp
      · have : (x != y) = true := by simpa using hxy
        simp [this, hxy]

theorem compare_ans [Base] {f : FuncId} {fn : Func} (hf : P.funcs[f]? = some fn) (hname : (fn.name == "runtime.NumGoroutine") = false) (hb : fn.body.isNone = true) (hn : Extern.findNext fn = none) (he : Extern.find fn = some Extern.BytealgCompare.compare)
    {xs ys : List PV} {a b : List UInt8} (ha : bytesOf? xs = some a) (hb2 : bytesOf? ys = some b) : AnsOk P f [.sl xs, .sl ys] [.int .i64 (cmpB a b)] := by
  refine .extern hf hname hb hn he fun m w cvs hs hsz hR => ?_
  have h0 := hR 0 _ rfl
  have h1 := hR 1 _ rfl
  obtain ⟨x, y, rfl⟩ : ∃ x y, cvs = #[x, y] := by
    obtain ⟨l⟩ := cvs
    match l, hsz with
    | [x, y], _ => exact ⟨x, y, rfl⟩
  refine ⟨.int .i64 (cmpB a b), ?_, .pv _ _ (.int _ _)⟩
  have e0 := run_bytesOf (P := P) hs.imm (cv := x) (by simpa using h0) ha
  have e1 := run_bytesOf (P := P) hs.imm (cv := y) (by simpa using h1) hb2
  change Sem.run P (do pure (goInt (Extern.BytealgCompare.cmp (← Extern.Bytes.bytesOf x) (← Extern.Bytes.bytesOf y)))) w = _
  simp only [Sem.run_bind, e0, e1, Result.andThen_ok, Sem.run_pure, cmp_eq]
  rfl

/-- The first place of a byte. -/
def idxB (c : UInt8) : List UInt8 → Int → Int
  | [], _ => -1
  | a :: l, i => if a = c then i else idxB c l (i + 1)

theorem firstIdx_eq (l : List UInt8) (c : UInt8) : firstIdx ⟨l.toArray⟩ c = idxB c l 0 := by
  have get : ∀ (l : List UInt8) (i : Nat), (⟨l.toArray⟩ : ByteArray)[i]! = l.getD i 0 := by
    intro l i
    simp only [getElem!_def, getElem?_def]
    by_cases hi : i < l.length
    · rw [dif_pos (by simpa [ByteArray.size] using hi)]
      simp [List.getD, hi]; rfl
    · rw [dif_neg (by simpa [ByteArray.size] using hi)]
      simp [List.getD, List.getElem?_eq_none (Nat.le_of_not_lt hi)]; rfl
  have size : (⟨l.toArray⟩ : ByteArray).size = l.length := by simp [ByteArray.size]
  unfold firstIdx
  simp only [get, size]
  have key : ∀ (l : List UInt8) (k : Int), (match (List.range l.length).find? fun i => l.getD i 0 == c with | some i => k + i | none => -1) = idxB c l k := by
    intro l
    induction l with
    | nil => intro k; rfl
    | cons a l ih =>
      intro k
      simp only [List.length_cons, List.range_succ_eq_map, List.find?_cons, List.getD_cons_zero, idxB]
      by_cases h : a = c
      · subst h; simp
      · have hb : (a == c) = false := by simpa using h
        simp only [hb, h, if_false, List.find?_map, Function.comp_def, List.getD_cons_succ]
        rw [← ih (k + 1)]
        cases (List.range l.length).find? fun i => l.getD i 0 == c with
        | none => rfl
        | some i =>
          show k + ((i + 1 : Nat) : Int) = k + 1 + (i : Int)
          rw [Int.natCast_add]
          omega
  rw [← key l 0]
  cases (List.range l.length).find? fun i => l.getD i 0 == c with
  | none => rfl
  | some i => exact (Int.zero_add _).symm

theorem indexStr_ans [Base] {f : FuncId} {fn : Func} (hf : P.funcs[f]? = some fn) (hname : (fn.name == "runtime.NumGoroutine") = false) (hb : fn.body.isNone = true) (hn : Extern.findNext fn = none) (he : Extern.find fn = some Extern.BytealgIndexByte.indexByte)
    {l : List UInt8} {c : Int} : AnsOk P f [.str l, .int .u8 c] [.int .i64 (idxB c.toNat.toUInt8 l 0)] := by
  refine .extern hf hname hb hn he fun m w cvs hs hsz hR => ?_
  have h0 := hR 0 _ rfl
  have h1 := hR 1 _ rfl
  obtain ⟨x, y, rfl⟩ : ∃ x y, cvs = #[x, y] := by
    obtain ⟨l⟩ := cvs
    match l, hsz with
    | [x, y], _ => exact ⟨x, y, rfl⟩
  have hx : x = .string ⟨l.toArray⟩ := by have := (R.pv (ρ := fun _ => none) _ _ h0).str; simpa using this
  have hy : y = .int .u8 c := by have := (R.pv (ρ := fun _ => none) _ _ h1).int; simpa using this
  subst hx hy
  refine ⟨_, run_indexByte_string _ _ _, .pv _ _ ?_⟩
  rw [firstIdx_eq]
  exact .int _ _

theorem oneArg {cvs : Array Value} (h : cvs.size = 1) : ∃ x, cvs = #[x] := by
  obtain ⟨l⟩ := cvs
  match l, h with
  | [x], _ => exact ⟨x, rfl⟩

theorem fbits_ans [Base] {f : FuncId} {fn : Func} (hf : P.funcs[f]? = some fn) (hname : (fn.name == "runtime.NumGoroutine") = false) (hb : fn.body.isNone = true) (hn : Extern.findNext fn = none) (he : Extern.find fn = some Extern.MathFloatBits.float64bits)
    {b : Nat} : AnsOk P f [.flt .f64 b] [if b = nanOf .f64 then .top else .int .u64 b] := by
  refine .extern hf hname hb hn he fun m w cvs hs hsz hR => ?_
  obtain ⟨x, rfl⟩ := oneArg hsz
  have h0 := hR 0 _ rfl
  obtain ⟨b', hx, hbb⟩ := (R.pv (ρ := fun _ => none) _ _ h0).fltX
  have hx : x = .float .f64 b' := by simpa using hx
  subst hx
  refine ⟨.int .u64 b', rfl, .pv _ _ ?_⟩
  split
  · exact .top _ ⟨rfl, by simp, by simp⟩
  · rename_i hnn
    obtain rfl := hbb.resolve_right (by simp [hnn])
    exact .int _ _

theorem ffrom_ans [Base] {f : FuncId} {fn : Func} (hf : P.funcs[f]? = some fn) (hname : (fn.name == "runtime.NumGoroutine") = false) (hb : fn.body.isNone = true) (hn : Extern.findNext fn = none) (he : Extern.find fn = some Extern.MathFloatBits.float64frombits)
    {n : Int} : AnsOk P f [.int .u64 n] [.flt .f64 n.toNat] := by
  refine .extern hf hname hb hn he fun m w cvs hs hsz hR => ?_
  obtain ⟨x, rfl⟩ := oneArg hsz
  have h0 := hR 0 _ rfl
  have hx : x = .int .u64 n := by have := (R.pv (ρ := fun _ => none) _ _ h0).int; simpa using this
  subst hx
  exact ⟨.float .f64 n.toNat, rfl, .pv _ _ (.flt _ _ _ (.inl rfl))⟩

/-- Kinds of such functions. -/
inductive XK where
  | compare
  | fbits
  | indexStr
  | ffrom
  deriving DecidableEq, Inhabited

def xAns : XK → List PV → Option (List PV)
  | .compare, [.sl xs, .sl ys] => match bytesOf? xs, bytesOf? ys with
    | some a, some b => some [.int .i64 (cmpB a b)]
    | _, _ => none
  | .indexStr, [.str l, .int .u8 c] => some [.int .i64 (idxB c.toNat.toUInt8 l 0)]
  | .fbits, [.flt .f64 b] => some [if b = nanOf .f64 then .top else .int .u64 b]
  | .ffrom, [.int .u64 n] => some [.flt .f64 n.toNat]
  | _, _ => none

def XOk [Base] (P : Program) (f : FuncId) (k : XK) : Prop := ∀ ps rs, xAns k ps = some rs → AnsOk P f ps rs

theorem XOk.compare [Base] {f : FuncId} {fn : Func} (hf : P.funcs[f]? = some fn) (hname : (fn.name == "runtime.NumGoroutine") = false) (hb : fn.body.isNone = true) (hn : Extern.findNext fn = none) (he : Extern.find fn = some Extern.BytealgCompare.compare) :
    XOk P f .compare := by
  intro ps rs h
  unfold xAns at h
  split at h
  · split at h
    · cases h; exact compare_ans hf hname hb hn he ‹_› ‹_›
    · cases h
  all_goals (rename_i hk; first | (cases hk; done) | skip)
  all_goals cases h

theorem XOk.indexStr [Base] {f : FuncId} {fn : Func} (hf : P.funcs[f]? = some fn) (hname : (fn.name == "runtime.NumGoroutine") = false) (hb : fn.body.isNone = true) (hn : Extern.findNext fn = none) (he : Extern.find fn = some Extern.BytealgIndexByte.indexByte) : XOk P f .indexStr := by
  intro ps rs h
  unfold xAns at h
  split at h
  all_goals (rename_i hk; first | (cases hk; done) | skip)
  all_goals first
    | (cases h; exact indexStr_ans hf hname hb hn he)
    | cases h

theorem XOk.fbits [Base] {f : FuncId} {fn : Func} (hf : P.funcs[f]? = some fn) (hname : (fn.name == "runtime.NumGoroutine") = false) (hb : fn.body.isNone = true) (hn : Extern.findNext fn = none) (he : Extern.find fn = some Extern.MathFloatBits.float64bits) : XOk P f .fbits := by
  intro ps rs h
  unfold xAns at h
  split at h
  all_goals (rename_i hk; first | (cases hk; done) | skip)
  all_goals first
    | (cases h; exact fbits_ans hf hname hb hn he)
    | cases h

theorem XOk.ffrom [Base] {f : FuncId} {fn : Func} (hf : P.funcs[f]? = some fn) (hname : (fn.name == "runtime.NumGoroutine") = false) (hb : fn.body.isNone = true) (hn : Extern.findNext fn = none) (he : Extern.find fn = some Extern.MathFloatBits.float64frombits) : XOk P f .ffrom := by
  intro ps rs h
  unfold xAns at h
  split at h
  all_goals (rename_i hk; first | (cases hk; done) | skip)
  all_goals first
    | (cases h; exact ffrom_ans hf hname hb hn he)
    | cases h

def xExt : List (FuncId × XK) → FuncId → List PV → Option (List PV)
  | [], _, _ => none
  | (g, k) :: l, f, ps => match Nat.beq g f with
    | true => xAns k ps
    | false => xExt l f ps

theorem xExt_ok [Base] : ∀ {l : List (FuncId × XK)}, (∀ x ∈ l, XOk P x.1 x.2) → PureOk P (xExt l)
  | [], _ => fun f ps rs h => by simp [xExt] at h
  | (g, k) :: l, hl => fun f ps rs h => by
    simp only [xExt] at h
    split at h
    · rename_i hb
      have := Nat.eq_of_beq_eq_true hb
      subst this
      exact hl (g, k) (by simp) ps rs h
    · exact xExt_ok (fun x hx => hl x (List.mem_cons_of_mem _ hx)) f ps rs h

/-- Known answers, then others. -/
def orExt (x y : FuncId → List PV → Option (List PV)) (f : FuncId) (ps : List PV) : Option (List PV) := match x f ps with
  | some rs => some rs
  | none => y f ps

theorem orExt_ok [Base] {x y : FuncId → List PV → Option (List PV)} (hx : PureOk P x) (hy : PureOk P y) : PureOk P (orExt x y) := by
  intro f ps rs h
  unfold orExt at h
  split at h
  · cases h; exact hx _ _ _ ‹_›
  · exact hy _ _ _ h

variable {mu : TypeId → Bool} {E : Env}

theorem Table.orMemo [Base] (T : Table P mu E) {k : List (FuncId × List PV × List PV)} (hk : Knows P k) : Table P mu { E with ext := orExt (_root_.Ab.memo k) E.ext } := ⟨T.func, orExt_ok (memo_ok hk) T.ext, T.mix, T.idle⟩

end Ab
