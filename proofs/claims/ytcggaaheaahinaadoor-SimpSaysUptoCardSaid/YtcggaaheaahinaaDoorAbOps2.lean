/- Each operation that touches no memory or reads it: what it does. -/
import Derived.Test.YtcggaaheaahinaaDoorAbOps
namespace Ab
open Go


variable {P : Program} {m : Imm} {ρ : Rho}

/-- What stands at hand when an operation runs. -/
structure At [Base] (m : Imm) (ρ : Rho) (a : Act) (ts : List V) (h : Heap) (w : World) : Prop where
  tmps : ∀ (t : Nat) (v : V), ts[t]? = some v → R m ρ v (a.tmps.getD t undef)
  sim : Sim m ρ (ent h) w

section
variable {a : Act} {ts : List V} {h : Heap} {w : World} {o : Oper}

theorem At.x [Base] (A : At m ρ a ts h w) {x : Operand} {ax : AOperand} {v : V} (h1 : trX x = some ax) (h2 : St.eval ts ax = some v) : R m ρ v (a.eval x) := evalX h1 h2 A.tmps A.sim.base

def evoA (ts : List V) (x : Option AOperand) : Option (Option V) := match x with
  | some x => (St.eval ts x).map some
  | none => some none

theorem At.xo [Base] (A : At m ρ a ts h w) {x : Option Operand} {ax : Option AOperand} {v : Option V} (h1 : trXo x = some ax) (h2 : evoA ts ax = some v) : RO m ρ v (x.map a.eval) := by
  cases x with
  | none => simp [trXo] at h1; subst h1; simp [evoA] at h2; subst h2; trivial
  | some x =>
    simp only [trXo, Option.bind_eq_bind, Option.bind_eq_some_iff, Option.some.injEq] at h1
    obtain ⟨y, hy, rfl⟩ := h1
    simp only [evoA, Option.map_eq_some_iff] at h2
    obtain ⟨u, hu, rfl⟩ := h2
    exact A.x hy hu

theorem op_move [Base] (A : At m ρ a ts h w) {x : Operand} {ax : AOperand} {v : V} (ho : o.op = .move x ∨ o.op = .assign x) (h1 : trX x = some ax) (h2 : St.eval ts ax = some v) : Done P a o w (ent h) (ent h) h.length h.length m ρ v := by
  refine .same A.sim ?_ (A.x h1 h2)
  rcases ho with ho | ho <;> simp [execOp, ho]

theorem op_pick [Base] (A : At m ρ a ts h w) {c x y : Operand} {ac ax ay : AOperand} {t : Bool} {u v : V} (ho : o.op = .pick c x y) (h1 : trX c = some ac) (h2 : trX x = some ax) (h3 : trX y = some ay)
    (e1 : St.eval ts ac = some (.pv (.bool t))) (e2 : St.eval ts ax = some u) (e3 : St.eval ts ay = some v) : Done P a o w (ent h) (ent h) h.length h.length m ρ (if t then u else v) := by
  have k1 := (A.x h1 e1).bool
  refine .same (cv := if t then a.eval x else a.eval y) A.sim ?_ ?_
  · simp only [execOp, ho, k1, asBool, Sem.run_bind, Sem.run_pure, Result.andThen_ok]
  · cases t
    · simpa using A.x h3 e3
    · simpa using A.x h2 e2

theorem op_load [Base] (A : At m ρ a ts h w) {t : TypeId} {x : Operand} {ax : AOperand} {ag : Bool} {s : Nat} {u v : V} (ho : o.op = .load t x) (h1 : aggT P t = some ag) (h2 : sizeT P t = some s) (h3 : trX x = some ax)
    (e1 : St.eval ts ax = some u) (e2 : loadA h ag (if ag then s else 1) u = some v) : Done P a o w (ent h) (ent h) h.length h.length m ρ v := by
  simp only [aggT, Option.map_eq_some_iff] at h1
  obtain ⟨d, hd, rfl⟩ := h1
  simp only [sizeT, Option.map_eq_some_iff] at h2
  obtain ⟨i, hi, rfl⟩ := h2
  obtain ⟨b, off, f, c1, c2, c3⟩ := load_ok A.sim (by intro hh; rw [hh]; rfl) e2 (A.x h3 e1)
  have hrun := run_loadVar hd hi w b off f (fun j hj => c2 j hj)
  refine .same A.sim ?_ c3
  have hl : ((List.range (if aggD d = true then i.size else 1)).map f).toArray = if aggD d = true then ((List.range i.size).map f).toArray else ((List.range 1).map f).toArray := by split <;> rfl
  simp only [execOp, ho, c1, Instr.loadAt, Instr.sureAddr, Sem.run_bind, Sem.run_pure, Result.andThen_ok, hrun]
  cases aggD d <;> rfl

theorem op_nilCheck [Base] (A : At m ρ a ts h w) {x : Operand} {ax : AOperand} {v : V} (ho : o.op = .nilCheck x) (h1 : trX x = some ax) (e1 : St.eval ts ax = some v)
    (hv : (∃ id off, v = .ptr id off) ∨ (∃ cs off, v = .pv (.ip cs off)) ∨ (∃ f cs, v = .pv (.fn f cs)) ∨ (∃ f cs, v = .fn f cs)) : Done P a o w (ent h) (ent h) h.length h.length m ρ v := by
  have hr := A.x (a := a) h1 e1
  refine .same A.sim ?_ hr
  obtain ⟨cx, hcx⟩ : ∃ cx, a.eval x = cx := ⟨_, rfl⟩
  rw [hcx] at hr ⊢
  rcases hv with ⟨id, off, rfl⟩ | ⟨cs, off, rfl⟩ | ⟨f, cs, rfl⟩ | ⟨f, cs, rfl⟩
  · cases hr; simp [execOp, ho, hcx]
  · cases hr.pure; simp [execOp, ho, hcx]
  · cases hr.pure; simp [execOp, ho, hcx]
  · cases hr; simp [execOp, ho, hcx]

theorem op_bin [Base] (A : At m ρ a ts h w) {op : BinOp} {t yt : TypeId} {x y : Operand} {ax ay : AOperand} {ek : EqK} {u1 u2 v : V} (ho : o.op = .binOp op t x y yt) (h0 : trBin P op t = some ek) (h1 : trX x = some ax) (h2 : trX y = some ay)
    (e1 : St.eval ts ax = some u1) (e2 : St.eval ts ay = some u2) (e3 : binA op ek u1 u2 = some v) : Done P a o w (ent h) (ent h) h.length h.length m ρ v := by
  obtain ⟨cv, k1, k2⟩ := bin_ok (P := P) w x y h0 e3 (A.x (a := a) h1 e1) (A.x h2 e2)
  refine .same A.sim ?_ k2
  simp only [Sem.run_bind] at k1
  simp only [execOp, ho, Sem.run_bind, k1, Result.andThen_ok, Sem.run_pure]

theorem op_un [Base] (A : At m ρ a ts h w) {op : UnOp} {t : TypeId} {x : Operand} {ax : AOperand} {u v : V} (ho : o.op = .unOp op t x) (h1 : trX x = some ax) (e1 : St.eval ts ax = some u) (e3 : unA op u = some v) : Done P a o w (ent h) (ent h) h.length h.length m ρ v := by
  have hr := A.x (a := a) h1 e1
  unfold unA at e3
  split at e3
  · rename_i k n
    cases e3
    refine .same A.sim ?_ (.pv _ _ (.int _ _))
    simp [execOp, ho, hr.int, Op.unary, Op.intArith]
  · rename_i k n
    cases e3
    refine .same A.sim ?_ (.pv _ _ (.int _ _))
    simp only [execOp, ho, hr.int, Op.unary, Op.intBits, Sem.run_bind, Sem.run_pure, Result.andThen_ok]
  · rename_i b
    cases e3
    refine .same A.sim ?_ (.pv _ _ (.bool _))
    simp [execOp, ho, hr.bool, Op.unary]
  · simp at e3

theorem op_convInt [Base] (A : At m ρ a ts h w) {s t : TypeId} {k0 k k1 : IntKind} {n : Int} {x : Operand} {ax : AOperand} (ho : o.op = .convert s t x) (hs : P.underlying s = some (.int k0)) (ht : P.underlying t = some (.int k)) (h1 : trX x = some ax)
    (e1 : St.eval ts ax = some (.pv (.int k1 n))) : Done P a o w (ent h) (ent h) h.length h.length m ρ (.pv (.int k (k.wrap n))) := by
  refine .same A.sim ?_ (.pv _ _ (.int _ _))
  simp [execOp, ho, (A.x (a := a) h1 e1).int, convert, run_underlying hs, run_underlying ht, Conv.intToInt]

theorem op_convFlt [Base] (A : At m ρ a ts h w) {s t : TypeId} {k0 k1 : IntKind} {k : FloatKind} {n : Int} {x : Operand} {ax : AOperand} (ho : o.op = .convert s t x) (hs : P.underlying s = some (.int k0)) (ht : P.underlying t = some (.float k)) (h1 : trX x = some ax)
    (e1 : St.eval ts ax = some (.pv (.int k1 n))) : Done P a o w (ent h) (ent h) h.length h.length m ρ (.pv (.flt k (k.nearest n))) := by
  refine .same A.sim ?_ (.pv _ _ (.flt _ _ _ (.inl rfl)))
  simp [execOp, ho, (A.x (a := a) h1 e1).int, convert, run_underlying hs, run_underlying ht, Conv.intToFloat]

theorem op_convStr [Base] (A : At m ρ a ts h w) {s t : TypeId} {l : List UInt8} {x : Operand} {ax : AOperand} (ho : o.op = .convert s t x) (hs : P.underlying s = some .string) (ht : P.underlying t = some .string) (h1 : trX x = some ax)
    (e1 : St.eval ts ax = some (.pv (.str l))) : Done P a o w (ent h) (ent h) h.length h.length m ρ (.pv (.str l)) := by
  refine .same A.sim ?_ (.pv _ _ (.str l))
  simp [execOp, ho, (A.x (a := a) h1 e1).str, convert, run_underlying hs, run_underlying ht]

theorem array_map_eval (a : Act) (xs : Array Operand) : xs.map a.eval = (xs.toList.map a.eval).toArray := by
  rcases xs with ⟨l⟩; simp

theorem op_mkFn [Base] (A : At m ρ a ts h w) {f : FuncId} {first caps : Array Operand} {axs : List AOperand} {cs : List V} (ho : o.op = .makeFunc (.func f) first caps) (h0 : first.size = 0) (h1 : trXs caps.toList = some axs) (e1 : evals ts axs = some cs) :
    Done P a o w (ent h) (ent h) h.length h.length m ρ (mkFn f cs) := by
  obtain ⟨k1, k2⟩ := evalXs (a := a) h1 e1 A.tmps A.sim.base
  have hf : first = #[] := by simpa using h0
  refine .same (cv := .func (.func f) #[] (caps.map a.eval)) A.sim ?_ (mkFn_ok (by simpa using k1.symm) fun j c hj => ?_)
  · simp [execOp, ho, hf, Instr.makeFunc]
  · have := k2 j c hj
    rw [array_map_eval]
    simpa [Array.getD_eq_getD_getElem?] using this

theorem op_sliceStr [Base] (A : At m ρ a ts h w) {t : TypeId} {x : Operand} {lo hi : Option Operand} {ax : AOperand} {alo ahi : Option AOperand} {u v : V} {vlo vhi : Option V} (ho : o.op = .slice t x lo hi none) (hd : P.underlying t = some .string)
    (h1 : trX x = some ax) (h2 : trXo lo = some alo) (h3 : trXo hi = some ahi) (e1 : St.eval ts ax = some u) (e2 : evoA ts alo = some vlo)
    (e3 : evoA ts ahi = some vhi) (e4 : sliceStrA u vlo vhi = some v) : Done P a o w (ent h) (ent h) h.length h.length m ρ v := by
  have r1 := A.x (a := a) h1 e1
  have r2 := A.xo (a := a) h2 e2
  have r3 := A.xo (a := a) h3 e3
  unfold sliceStrA at e4
  split at e4
  · rename_i s
    split at e4
    · rename_i l h' hb
      cases e4
      obtain ⟨k1, k2, k3⟩ := bounds_ok (P := P) w false hb (Nat.le_refl _) r2 r3
      refine .same A.sim ?_ (.pv _ _ (.str _))
      have : (Instr.sliceBounds false (⟨s.toArray⟩ : ByteArray).size (⟨s.toArray⟩ : ByteArray).size (lo.map a.eval) (hi.map a.eval) none).run P w = .ok (l, h', s.length) w := by rw [size_mk]; exact k1
      simp [execOp, ho, r1.str, Instr.sliceAt, run_underlying hd, Instr.slice, this, extract_mk]
    · simp at e4
  · simp at e4

theorem op_sliceSl [Base] (A : At m ρ a ts h w) {t e : TypeId} {sz : Nat} {x : Operand} {lo hi : Option Operand} {ax : AOperand} {alo ahi : Option AOperand} {u v : V} {vlo vhi : Option V} (ho : o.op = .slice t x lo hi none) (hd : P.underlying t = some (.slice e)) (hsz : sizeT P e = some sz)
    (h1 : trX x = some ax) (h2 : trXo lo = some alo) (h3 : trXo hi = some ahi) (e1 : St.eval ts ax = some u) (e2 : evoA ts alo = some vlo)
    (e3 : evoA ts ahi = some vhi) (e4 : sliceSlA sz u vlo vhi = some v) : Done P a o w (ent h) (ent h) h.length h.length m ρ v := by
  have r1 := A.x (a := a) h1 e1
  have r2 := A.xo (a := a) h2 e2
  have r3 := A.xo (a := a) h3 e3
  simp only [sizeT, Option.map_eq_some_iff] at hsz
  obtain ⟨i, hi', rfl⟩ := hsz
  have run : ∀ (ad : Option Addr) (len cap l h' : Nat), a.eval x = .slice ad len cap → (Instr.sliceBounds true len cap (lo.map a.eval) (hi.map a.eval) none).run P w = .ok (l, h', cap) w →
      (execOp a.eval o).run P w = .ok (.value (.slice (if cap = l then ad else ad.map (·.add (l * i.size))) (h' - l) (cap - l))) w := by
    intro ad len cap l h' hx hb
    simp [execOp, ho, hx, Instr.sliceAt, run_underlying hd, Instr.slice, hb, run_size hi']
  have pureCase : ∀ (es : List PV), RP m (.sl es) (a.eval x) → (match bounds es.length vlo vhi with | some (l, h) => if strideOk i.size es then some (V.pv (.sl ((es.drop l).take (h - l)))) else none | none => none) = some v → Done P a o w (ent h) (ent h) h.length h.length m ρ v := by
    intro es hp hv
    split at hv
    · rename_i l h' hb
      split at hv
      · rename_i hst
        cases hv
        obtain ⟨ad, cap, hx, hcap, _⟩ := hp.sl_inv
        obtain ⟨k1, k2, k3⟩ := bounds_ok (P := P) w true hb hcap r2 r3
        rw [hx] at hp
        exact .same A.sim (run ad es.length cap l h' hx k1) (.pv _ _ (slice_pure hp hst k2 k3))
      · simp at hv
    · simp at hv
  obtain ⟨cx, hcx⟩ : ∃ cx, a.eval x = cx := ⟨_, rfl⟩
  unfold sliceSlA at e4
  split at e4
  · exact pureCase _ r1.pure e4
  · rename_i es tok
    refine pureCase es ?_ e4
    rw [hcx] at r1 ⊢
    cases r1; assumption
  · rename_i es
    refine pureCase es ?_ e4
    rw [hcx] at r1 ⊢
    cases r1; assumption
  · split at e4
    · rename_i lh hb
      cases e4
      obtain ⟨l, h'⟩ := lh
      rw [hcx] at r1
      cases r1
      obtain ⟨k1, k2, k3⟩ := bounds_ok (P := P) w true hb (Nat.le_refl _) r2 r3
      have := run none 0 0 l h' hcx k1
      refine .same A.sim this ?_
      have e1 : h' = 0 := by omega
      have e2 : l = 0 := by omega
      subst e1; subst e2
      exact .nils
    · simp at e4
  · rename_i id off len sz' ag
    split at e4
    · rename_i l h' hb
      split at e4
      · rename_i hs
        rw [hcx] at r1
        cases r1 with
        | sln _ _ _ _ _ loc cap hloc hcap hsize =>
          obtain ⟨k1, k2, k3⟩ := bounds_ok (P := P) w true hb hcap r2 r3
          refine .same A.sim (run _ len cap l h' hcx k1) ?_
          subst hs
          split at e4
          · rename_i hl
            cases e4
            subst hl
            rw [Nat.sub_self]
            exact .pv _ _ (.sl0 _ _)
          · rename_i hl
            cases e4
            rw [if_neg (by omega)]
            simp only [Option.map_some, add_eq]
            refine .sln id (off + l * i.size) (h' - l) i.size ag loc (cap - l) hloc (by omega) ?_
            rw [Nat.add_assoc, ← Nat.add_mul]
            have : l + (cap - l) = cap := by omega
            rw [this]; exact hsize
      · simp at e4
    · simp at e4
  · simp at e4

theorem op_sliceArr [Base] (A : At m ρ a ts h w) {t e : TypeId} {sz n : Nat} {ag : Bool} {x : Operand} {lo hi : Option Operand} {ax : AOperand} {alo ahi : Option AOperand} {u v : V} {vlo vhi : Option V} (ho : o.op = .slice t x lo hi none) (hd : P.underlying t = some (.array n e)) (hsz : sizeT P e = some sz)
    (h1 : trX x = some ax) (h2 : trXo lo = some alo) (h3 : trXo hi = some ahi) (e1 : St.eval ts ax = some u) (e2 : evoA ts alo = some vlo)
    (e3 : evoA ts ahi = some vhi) (e4 : sliceArrA h sz n ag u vlo vhi = some v) : Done P a o w (ent h) (ent h) h.length h.length m ρ v := by
  have r1 := A.x (a := a) h1 e1
  have r2 := A.xo (a := a) h2 e2
  have r3 := A.xo (a := a) h3 e3
  simp only [sizeT, Option.map_eq_some_iff] at hsz
  obtain ⟨i, hi', rfl⟩ := hsz
  obtain ⟨cx, hcx⟩ : ∃ cx, a.eval x = cx := ⟨_, rfl⟩
  unfold sliceArrA at e4
  split at e4
  · rename_i id off
    split at e4
    · rename_i l h' hb
      split at e4
      · rename_i hroom
        rw [hcx] at r1
        cases r1 with
        | ptr _ _ loc hloc =>
          obtain ⟨k1, k2, k3⟩ := bounds_ok (P := P) w false hb (Nat.le_refl _) r2 r3
          have hrun : (execOp a.eval o).run P w = .ok (.value (.slice (some (if n = l then ⟨loc.blk, off, none⟩ else (⟨loc.blk, off, none⟩ : Addr).add (l * i.size))) (h' - l) (n - l))) w := by
            simp [execOp, ho, hcx, Instr.sliceAt, Instr.sureAddr, run_underlying hd, k1, run_size hi']
          refine .same A.sim hrun ?_
          split at e4
          · rename_i hl
            cases e4
            subst hl
            rw [Nat.sub_self]
            exact .pv _ _ (.sl0 _ _)
          · rename_i hl
            cases e4
            rw [if_neg (by omega)]
            rw [add_eq]
            have hroom' : off + n * i.size ≤ loc.size := by
              unfold roomOk at hroom
              split at hroom
              · rename_i cs _ hid
                have hroom := of_decide_eq_true hroom
                obtain ⟨l2, c, e, fz, q1, _, q2, q3, q4, q5, _⟩ := A.sim.blk id cs hid
                rw [hloc] at q1; cases q1
                omega
              · simp at hroom
            refine .sln id (off + l * i.size) (h' - l) i.size ag loc (n - l) hloc (by omega) ?_
            rw [Nat.add_assoc, ← Nat.add_mul]
            have : l + (n - l) = n := by omega
            rw [this]; exact hroom'
      · simp at e4
    · simp at e4
  · simp at e4

theorem faddr_ok {off : Nat} {u v : V} {ca : Value} (h : faddrA off u = some v) (hr : R m ρ u ca) : ∃ b o', ca = .pointer (some ⟨b, o', none⟩) ∧ R m ρ v (.pointer (some ⟨b, o' + off, none⟩)) := by
  cases hr with
  | ptr id o' loc hloc => simp [faddrA] at h; subst h; exact ⟨loc.blk, o', rfl, .ptr id (o' + off) loc hloc⟩
  | pv p v' hp =>
    cases hp with
    | ip cs b o' off' f hc hm hrr =>
      simp [faddrA] at h; subst h
      refine ⟨b, o' + off', rfl, ?_⟩
      rw [Nat.add_assoc]
      exact .pv _ _ (.ip cs b o' (off' + off) f hc hm hrr)
    | _ => simp [faddrA] at h
  | _ => simp [faddrA] at h

theorem fieldT_some {s : TypeId} {k : Nat} {fd : Field} (h : fieldT P s k = some fd) : ∃ fs, P.underlying s = some (.struct fs) ∧ fs[k]? = some fd := by
  unfold fieldT at h
  split at h
  · exact ⟨_, by assumption, h⟩
  · simp at h

theorem op_faddr [Base] (A : At m ρ a ts h w) {s : TypeId} {k : Nat} {fd : Field} {sz : Nat} {x : Operand} {ax : AOperand} {u v : V} (ho : o.op = .fieldAddr s x k) (hf : fieldT P s k = some fd) (hsz : sizeT P fd.type = some sz) (hpos : 0 < sz) (h1 : trX x = some ax)
    (e1 : St.eval ts ax = some u) (e2 : faddrA fd.offset u = some v) : Done P a o w (ent h) (ent h) h.length h.length m ρ v := by
  obtain ⟨fs, hd, hfs⟩ := fieldT_some hf
  simp only [sizeT, Option.map_eq_some_iff] at hsz
  obtain ⟨i, hi, rfl⟩ := hsz
  obtain ⟨b, o', hx, hr⟩ := faddr_ok e2 (A.x (a := a) h1 e1)
  refine .same A.sim ?_ hr
  simp only [execOp, ho, hx, Instr.fieldAt, Instr.sureAddr, Sem.run_bind, run_underlying hd, Result.andThen_ok, hfs, Sem.run_pure, fieldPlace, run_size hi]
  rw [if_neg (by omega)]
  simp [add_eq]

theorem op_field [Base] (A : At m ρ a ts h w) {s : TypeId} {k : Nat} {fd : Field} {sz : Nat} {ag : Bool} {x : Operand} {ax : AOperand} {u v : V} (ho : o.op = .field s x k) (hf : fieldT P s k = some fd) (hag : aggT P fd.type = some ag) (hsz : sizeT P fd.type = some sz) (h1 : trX x = some ax)
    (e1 : St.eval ts ax = some u) (e2 : partA fd.offset (if ag then sz else 1) ag u = some v) : Done P a o w (ent h) (ent h) h.length h.length m ρ v := by
  obtain ⟨fs, hd, hfs⟩ := fieldT_some hf
  simp only [sizeT, Option.map_eq_some_iff] at hsz
  obtain ⟨i, hi, rfl⟩ := hsz
  simp only [aggT, Option.map_eq_some_iff] at hag
  obtain ⟨d, hdd, rfl⟩ := hag
  obtain ⟨vs, cv, hx, hrun, hr⟩ := part_ok w hdd hi rfl e2 (A.x (a := a) h1 e1)
  refine .same A.sim ?_ hr
  simp only [execOp, ho, hx, Instr.field, asAgg, Sem.run_bind, run_underlying hd, Result.andThen_ok, hfs, Sem.run_pure, hrun]

theorem op_iaddrArr [Base] (A : At m ρ a ts h w) {t e : TypeId} {n sz : Nat} {x y : Operand} {ax ay : AOperand} {u1 u2 v : V} (ho : o.op = .indexAddr t x y) (hd : P.underlying t = some (.array n e)) (hsz : sizeT P e = some sz) (h1 : trX x = some ax) (h2 : trX y = some ay)
    (e1 : St.eval ts ax = some u1) (e2 : St.eval ts ay = some u2) (e3 : iaddrArrA n sz u1 u2 = some v) : Done P a o w (ent h) (ent h) h.length h.length m ρ v := by
  simp only [sizeT, Option.map_eq_some_iff] at hsz
  obtain ⟨i, hi, rfl⟩ := hsz
  unfold iaddrArrA at e3
  split at e3
  · rename_i j hj
    split at e3
    · rename_i hlt
      obtain ⟨k, hk⟩ := natOf_ok hj (A.x (a := a) h2 e2)
      obtain ⟨b, o', hx, hr⟩ := faddr_ok e3 (A.x (a := a) h1 e1)
      refine .same A.sim ?_ hr
      simp [execOp, ho, hx, hk, Instr.indexAt, asIntOf, Instr.sureAddr, run_underlying hd, hlt, run_size hi, add_eq]
    · simp at e3
  · simp at e3

theorem elemAt_ok {sz j : Nat} {es : List PV} {v : V} {ad : Option Addr} {cap : Nat} (h : elemAt sz es j = some v) (hp : RP m (.sl es) (.slice ad es.length cap)) : j < es.length ∧ ∃ b o', ad = some ⟨b, o', none⟩ ∧ R m ρ v (.pointer (some ⟨b, o' + j * sz, none⟩)) := by
  unfold elemAt at h
  split at h
  · rename_i e he
    split at h
    · rename_i hc
      cases h
      have hlt := (List.getElem?_eq_some_iff.1 he).1
      refine ⟨hlt, ?_⟩
      obtain ⟨ad', cap', heq, hcap, hor⟩ := hp.sl_inv
      cases heq
      rcases hor with rfl | ⟨b, o', sz', f, rfl, hsz, hcell, hf⟩
      · simp at hlt
      · have hsz' : sz' = sz := by rw [← hc]; exact (hsz e (List.mem_of_getElem? he)).symm
        subst hsz'
        refine ⟨b, o', rfl, ?_⟩
        have hall : ∀ q c, e.cells[q]? = some c → (es.flatMap PV.cells)[j * sz' + q]? = some c := by
          intro q c hq
          have hql : q < sz' := by rw [← hc]; exact (List.getElem?_eq_some_iff.1 hq).1
          rw [flatMap_get hsz he hql]; exact hq
        have := RP.ip (m := m) e.cells b (o' + j * sz') 0 (fun q => f (j * sz' + q)) (fun c hcc => hcell e (List.mem_of_getElem? he) c hcc) (fun q c hq => by rw [Nat.add_assoc]; exact (hf _ c (hall q c hq)).1) (fun q c hq => (hf _ c (hall q c hq)).2)
        exact .pv _ _ this
    · simp at h
  · simp at h

theorem op_iaddrSl [Base] (A : At m ρ a ts h w) {t e : TypeId} {sz : Nat} {x y : Operand} {ax ay : AOperand} {u1 u2 v : V} (ho : o.op = .indexAddr t x y) (hd : P.underlying t = some (.slice e)) (hsz : sizeT P e = some sz) (h1 : trX x = some ax) (h2 : trX y = some ay)
    (e1 : St.eval ts ax = some u1) (e2 : St.eval ts ay = some u2) (e3 : iaddrSlA sz u1 u2 = some v) : Done P a o w (ent h) (ent h) h.length h.length m ρ v := by
  simp only [sizeT, Option.map_eq_some_iff] at hsz
  obtain ⟨i, hi, rfl⟩ := hsz
  have r1 := A.x (a := a) h1 e1
  unfold iaddrSlA at e3
  split at e3
  · simp at e3
  · rename_i j hj
    obtain ⟨k, hk⟩ := natOf_ok hj (A.x (a := a) h2 e2)
    have run : ∀ (b o' len cap : Nat), a.eval x = .slice (some ⟨b, o', none⟩) len cap → j < len → (execOp a.eval o).run P w = .ok (.value (.pointer (some ⟨b, o' + j * i.size, none⟩))) w := by
      intro b o' len cap hx hlt
      simp [execOp, ho, hx, hk, Instr.indexAt, asIntOf, run_underlying hd, hlt, run_size hi, add_eq]
    have pureCase : ∀ es, RP m (.sl es) (a.eval x) → elemAt i.size es j = some v → Done P a o w (ent h) (ent h) h.length h.length m ρ v := by
      intro es hp he
      obtain ⟨ad, cap, hx, _, _⟩ := hp.sl_inv
      rw [hx] at hp
      obtain ⟨hlt, b, o', rfl, hr⟩ := elemAt_ok (ρ := ρ) he hp
      exact .same A.sim (run b o' es.length cap hx hlt) hr
    obtain ⟨cx, hcx⟩ : ∃ cx, a.eval x = cx := ⟨_, rfl⟩
    split at e3
    · exact pureCase _ r1.pure e3
    · refine pureCase _ ?_ e3
      rw [hcx] at r1 ⊢
      cases r1; assumption
    · refine pureCase _ ?_ e3
      rw [hcx] at r1 ⊢
      cases r1; assumption
    · split at e3
      · rename_i hlt
        cases e3
        obtain ⟨h3, rfl⟩ := hlt
        rw [hcx] at r1
        cases r1 with
        | sln _ _ _ _ _ loc cap hloc hcap hsize =>
          exact .same A.sim (run _ _ _ _ hcx h3) (.ptr _ _ loc hloc)
      · simp at e3
    · simp at e3

theorem op_idxStr [Base] (A : At m ρ a ts h w) {t : TypeId} {x y : Operand} {ax ay : AOperand} {u1 u2 v : V} (ho : o.op = .index t x y) (hd : P.underlying t = some .string) (h1 : trX x = some ax) (h2 : trX y = some ay)
    (e1 : St.eval ts ax = some u1) (e2 : St.eval ts ay = some u2) (e3 : idxStrA u1 u2 = some v) : Done P a o w (ent h) (ent h) h.length h.length m ρ v := by
  cases u1 <;> (try (simp [idxStrA] at e3; done))
  rename_i p
  cases p <;> (try (simp [idxStrA] at e3; done))
  rename_i s
  simp only [idxStrA] at e3
  split at e3
  · rename_i j hj
    obtain ⟨k, hk⟩ := natOf_ok hj (A.x (a := a) h2 e2)
    simp only [Option.map_eq_some_iff] at e3
    obtain ⟨b, hb, rfl⟩ := e3
    refine .same A.sim ?_ (.pv _ _ (.int _ _))
    have hg : (⟨s.toArray⟩ : ByteArray)[j]? = some b := by
      have := (List.getElem?_eq_some_iff.1 hb)
      obtain ⟨hlt, he⟩ := this
      have hlt' : j < (⟨s.toArray⟩ : ByteArray).size := by rw [size_mk]; exact hlt
      rw [getElem?_pos (⟨s.toArray⟩ : ByteArray) j hlt']
      congr 1
    simp [execOp, ho, (A.x (a := a) h1 e1).str, hk, Instr.index, asIntOf, run_underlying hd, hg]
  · simp at e3

theorem op_idxArr [Base] (A : At m ρ a ts h w) {t e : TypeId} {n sz : Nat} {ag : Bool} {x y : Operand} {ax ay : AOperand} {u1 u2 v : V} (ho : o.op = .index t x y) (hd : P.underlying t = some (.array n e)) (hag : aggT P e = some ag) (hsz : sizeT P e = some sz) (hor : ag = true ∨ sz = 1) (h1 : trX x = some ax) (h2 : trX y = some ay)
    (e1 : St.eval ts ax = some u1) (e2 : St.eval ts ay = some u2) (e3 : idxArrA n sz ag u1 u2 = some v) : Done P a o w (ent h) (ent h) h.length h.length m ρ v := by
  simp only [sizeT, Option.map_eq_some_iff] at hsz
  obtain ⟨i, hi, rfl⟩ := hsz
  simp only [aggT, Option.map_eq_some_iff] at hag
  obtain ⟨d, hdd, rfl⟩ := hag
  unfold idxArrA at e3
  split at e3
  · rename_i j hj
    split at e3
    · rename_i hlt
      obtain ⟨k, hk⟩ := natOf_ok hj (A.x (a := a) h2 e2)
      obtain ⟨vs, cv, hx, hrun, hr⟩ := part_ok w hdd hi (by rcases hor with h | h <;> simp [h]) e3 (A.x (a := a) h1 e1)
      refine .same A.sim ?_ hr
      simp [execOp, ho, hx, hk, Instr.index, asIntOf, run_underlying hd, hlt, run_size hi, hrun]
    · simp at e3
  · simp at e3

theorem op_extract [Base] (A : At m ρ a ts h w) {k : Nat} {x : Operand} {ax : AOperand} {us : List V} {v : V} (ho : o.op = .extract x k) (h1 : trX x = some ax) (e1 : St.eval ts ax = some (.tup us)) (e2 : us[k]? = some v) : Done P a o w (ent h) (ent h) h.length h.length m ρ v := by
  have r1 := A.x (a := a) h1 e1
  obtain ⟨cx, hcx⟩ : ∃ cx, a.eval x = cx := ⟨_, rfl⟩
  rw [hcx] at r1
  cases r1 with
  | tup _ vs hl hr =>
    have hlt : k < vs.size := by rw [hl]; exact (List.getElem?_eq_some_iff.1 e2).1
    refine .same A.sim ?_ (hr k v e2)
    simp [execOp, ho, hcx, Instr.extract, hlt]

theorem lenOf_ok {u : V} {n : Nat} {cx : Value} (h : lenA u = some n) (hr : R m ρ u cx) : (∃ s, cx = .string s ∧ s.size = n) ∨ (∃ ad cap, cx = .slice ad n cap ∧ n ≤ cap) := by
  unfold lenA at h
  split at h
  · rename_i s; cases h; left; exact ⟨_, hr.str, size_mk s⟩
  · rename_i es; cases h; right; obtain ⟨ad, cap, hx, hc, _⟩ := hr.pure.sl_inv; exact ⟨ad, cap, hx, hc⟩
  · cases h; right; cases hr; exact ⟨_, _, rfl, by assumption⟩
  · cases h; right; cases hr; exact ⟨_, _, rfl, Nat.le_refl _⟩
  · cases h; right; cases hr; exact ⟨_, _, rfl, Nat.le_refl _⟩
  · cases h; right; cases hr; exact ⟨_, _, rfl, by assumption⟩
  · simp at h

end
end Ab
