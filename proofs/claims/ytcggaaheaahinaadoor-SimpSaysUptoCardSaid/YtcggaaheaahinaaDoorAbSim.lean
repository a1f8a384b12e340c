/- How the abstract machine's values and heaps stand to the model's. -/
import Derived.Test.YtcggaaheaahinaaDoorAbBase
namespace Ab
open Go

structure Loc where
  blk : Nat
  size : Nat
  lo : Nat

abbrev Rho := Nat → Option Loc
abbrev Imm := Nat → Nat → Option Value

def Imm.le (m m' : Imm) : Prop := ∀ b o v, m b o = some v → m' b o = some v
def Rho.le (ρ ρ' : Rho) : Prop := ∀ id l, ρ id = some l → ρ' id = some l

theorem Imm.le.refl (m : Imm) : m.le m := fun _ _ _ h => h
theorem Imm.le.trans {a b c : Imm} (h : a.le b) (k : b.le c) : a.le c := fun x y v e => k x y v (h x y v e)
theorem Rho.le.refl (m : Rho) : m.le m := fun _ _ h => h
theorem Rho.le.trans {a b c : Rho} (h : a.le b) (k : b.le c) : a.le c := fun x v e => k x v (h x v e)

/-- A pure value and what it is in memory. -/
inductive RP (m : Imm) : PV → Value → Prop
  | int (k n) : RP m (.int k n) (.int k n)
  | bool (b) : RP m (.bool b) (.bool b)
  | flt (k b b') (h : b = b' ∨ (b = nanOf k ∧ nanB k b' = true)) : RP m (.flt k b) (.float k b')
  | str (l) : RP m (.str l) (.string ⟨l.toArray⟩)
  | sl0 (a cap) : RP m (.sl []) (.slice a 0 cap)
  | sl (es b o cap sz) (f : Nat → Value) (hsz : ∀ e ∈ es, e.cells.length = sz) (hcell : ∀ e ∈ es, ∀ c ∈ e.cells, c.isCell = true) (hcap : es.length ≤ cap)
      (hm : ∀ j c, (es.flatMap PV.cells)[j]? = some c → m b (o + j) = some (f j))
      (hr : ∀ j c, (es.flatMap PV.cells)[j]? = some c → RP m c (f j)) : RP m (.sl es) (.slice (some ⟨b, o, none⟩) es.length cap)
  | agg (cs vs) (hcell : ∀ c ∈ cs, c.isCell = true) (hl : vs.size = cs.length) (hr : ∀ j c, cs[j]? = some c → RP m c (vs.getD j undef)) : RP m (.agg cs) (.agg vs)
  | nilp : RP m .nilp (.pointer none)
  | ip (cs b o off) (f : Nat → Value) (hcell : ∀ c ∈ cs, c.isCell = true)
      (hm : ∀ j c, cs[j]? = some c → m b (o + j) = some (f j))
      (hr : ∀ j c, cs[j]? = some c → RP m c (f j)) : RP m (.ip cs off) (.pointer (some ⟨b, o + off, none⟩))
  | fn (f caps vs) (hl : vs.size = caps.length) (hr : ∀ j c, caps[j]? = some c → RP m c (vs.getD j undef)) : RP m (.fn f caps) (.func (.func f) #[] vs)
  | nilfn : RP m .nilfn .nilFunc
  | nilif : RP m .nilif .nilIface
  | iface (t p v) (h : RP m p v) : RP m (.iface t p) (.iface t v)
  | top (v) (h : v.cells = #[v] ∧ (∀ vs, v ≠ .agg vs) ∧ (∀ vs, v ≠ .tuple vs)) : RP m .top v

theorem RP.mono {m m' : Imm} (h : m.le m') {p : PV} {v : Value} (r : RP m p v) : RP m' p v := by
  induction r with
  | int k n => exact .int k n
  | bool b => exact .bool b
  | flt k b b' h => exact .flt k b b' h
  | str l => exact .str l
  | sl0 a cap => exact .sl0 a cap
  | sl es b o cap sz f hsz hcell hcap hm hr ih => exact .sl es b o cap sz f hsz hcell hcap (fun j c hj => h _ _ _ (hm j c hj)) ih
  | agg cs vs hcell hl hr ih => exact .agg cs vs hcell hl ih
  | nilp => exact .nilp
  | ip cs b o off f hcell hm hr ih => exact .ip cs b o off f hcell (fun j c hj => h _ _ _ (hm j c hj)) ih
  | fn f caps vs hl hr ih => exact .fn f caps vs hl ih
  | nilfn => exact .nilfn
  | nilif => exact .nilif
  | iface t p v h ih => exact .iface t p v ih
  | top v h => exact .top v h

theorem RP.oneCell {m : Imm} {p : PV} {v : Value} (r : RP m p v) (h : p.isCell = true) : v.cells = #[v] ∧ (∀ vs, v ≠ .agg vs) ∧ (∀ vs, v ≠ .tuple vs) := by
  cases r <;> simp_all [PV.isCell, Value.cells]

/-- A value of a running function and what it is in memory. -/
inductive R (m : Imm) (ρ : Rho) : V → Value → Prop
  | pv (p v) (h : RP m p v) : R m ρ (.pv p) v
  | ptr (id off loc) (h : ρ id = some loc) : R m ρ (.ptr id off) (.pointer (some ⟨loc.blk, off, none⟩))
  | sln (id off len sz ag loc cap) (h : ρ id = some loc) (hcap : len ≤ cap) (hsize : off + cap * sz ≤ loc.size) : R m ρ (.sln id off len sz ag) (.slice (some ⟨loc.blk, off, none⟩) len cap)
  | slt (es tok b o cap sz loc) (hne : es ≠ []) (h : RP m (.sl es) (.slice (some ⟨b, o, none⟩) es.length cap)) (hcap : es.length ≤ cap) (hsz : ∀ e ∈ es, e.cells.length = sz) (hloc : ρ tok = some loc)
      (hb : loc.blk = b) (hlo : loc.lo = o + es.length * sz) (hsize : o + cap * sz ≤ loc.size) : R m ρ (.slt es tok) (.slice (some ⟨b, o, none⟩) es.length cap)
  | slx (es b o) (h : RP m (.sl es) (.slice (some ⟨b, o, none⟩) es.length es.length)) : R m ρ (.slx es) (.slice (some ⟨b, o, none⟩) es.length es.length)
  | nils : R m ρ .nils (.slice none 0 0)
  | agg (cs vs) (hcell : ∀ c ∈ cs, c.isCell = true) (hl : vs.size = cs.length) (hr : ∀ j c, cs[j]? = some c → R m ρ c (vs.getD j undef)) : R m ρ (.agg cs) (.agg vs)
  | fn (f caps vs) (hl : vs.size = caps.length) (hr : ∀ j c, caps[j]? = some c → R m ρ c (vs.getD j undef)) : R m ρ (.fn f caps) (.func (.func f) #[] vs)
  | tup (us vs) (hl : vs.size = us.length) (hr : ∀ j c, us[j]? = some c → R m ρ c (vs.getD j undef)) : R m ρ (.tup us) (.tuple vs)

theorem R.mono {m m' : Imm} {ρ ρ' : Rho} (h : m.le m') (k : ρ.le ρ') {x : V} {v : Value} (r : R m ρ x v) : R m' ρ' x v := by
  induction r with
  | pv p v hp => exact .pv p v (hp.mono h)
  | ptr id off loc hl => exact .ptr id off loc (k _ _ hl)
  | sln id off len sz ag loc cap hl hc hs => exact .sln id off len sz ag loc cap (k _ _ hl) hc hs
  | slt es tok b o cap sz loc hne hp hcap hsz hloc hb hlo hs => exact .slt es tok b o cap sz loc hne (hp.mono h) hcap hsz (k _ _ hloc) hb hlo hs
  | slx es b o hp => exact .slx es b o (hp.mono h)
  | nils => exact .nils
  | agg cs vs hcell hl hr ih => exact .agg cs vs hcell hl ih
  | fn f caps vs hl hr ih => exact .fn f caps vs hl ih
  | tup us vs hl hr ih => exact .tup us vs hl ih

theorem R.oneCell {m : Imm} {ρ : Rho} {x : V} {v : Value} (r : R m ρ x v) (h : x.isCell = true) : v.cells = #[v] ∧ (∀ vs, v ≠ .agg vs) ∧ (∀ vs, v ≠ .tuple vs) := by
  cases r with
  | pv p v hp => exact hp.oneCell h
  | agg => simp [V.isCell] at h
  | tup => simp [V.isCell] at h
  | _ => simp [Value.cells]

def live : Ent → Prop
  | .blk _ _ => True
  | .tok => True
  | _ => False

/-- The concrete blocks that live entries own. -/
def Owned (g : Nat → Ent) (ρ : Rho) (k : Nat) : Prop := ∃ id loc, live (g id) ∧ ρ id = some loc ∧ loc.blk = k

def free (fz : Nat × Nat) (n : Nat) : Prop := fz.1 = fz.2 ∨ n ≤ fz.1

theorem free.at {fz : Nat × Nat} {n : Nat} (h : free fz n) (o : Nat) (ho : o < n) : ¬ (fz.1 ≤ o ∧ o < fz.2) := by
  rcases h with h | h <;> omega

/-- What is known of package variables: cells that never change. -/
class Base where
  cells : Imm
  glob : Nat → Option (List PV)
  ok : ∀ g cs, glob g = some cs → RP cells (.ip cs 0) (.pointer (some ⟨g, 0, none⟩))
  idle : List (FuncId × Nat)

/-- A deferred call that does nothing where nothing panics. -/
def idleD [Base] (d : Deferred) : Prop := ∃ (f : FuncId) (caps : Array Value), (f, caps.size) ∈ Base.idle ∧ d = { target := .fn (.func f) caps, args := #[] }


structure Sim [Base] (m : Imm) (ρ : Rho) (g : Nat → Ent) (w : World) : Prop where
  imm : ∀ b o v, m b o = some v → w.cell? ⟨b, o, none⟩ = some v
  blk : ∀ {t} id cs, g id = .blk cs t → ∃ loc c e fz, ρ id = some loc ∧ (loc.lo = 0 ∧ ∀ x, t = some x → e = x) ∧ w.heap[loc.blk]? = some (.cells c e fz) ∧ c.size = loc.size ∧ free fz c.size ∧ cs.length ≤ c.size ∧
    (∀ i v, cs[i]? = some v → v.isCell = true ∧ R m ρ v (c.getD i undef)) ∧ (∀ o, m loc.blk o = none)
  tok : ∀ id, g id = .tok → ∃ loc c e fz, ρ id = some loc ∧ w.heap[loc.blk]? = some (.cells c e fz) ∧ c.size = loc.size ∧ free fz c.size ∧ (∀ o, loc.lo ≤ o → m loc.blk o = none)
  frz : ∀ id ps, g id = .frz ps → ∃ loc, ∃ f : Nat → Value, ρ id = some loc ∧ (∀ i p, ps[i]? = some p → p.isCell = true ∧ m loc.blk i = some (f i) ∧ RP m p (f i))
  base : Base.cells.le m
  inj : ∀ i j li lj, live (g i) → live (g j) → ρ i = some li → ρ j = some lj → li.blk = lj.blk → i = j

/-- What an operation that owns what g owns may have done: lo, hi: the new entries. -/
structure Step (g g' : Nat → Ent) (lo hi : Nat) (m : Imm) (ρ : Rho) (w : World) (m' : Imm) (ρ' : Rho) (w' : World) : Prop where
  imm : m.le m'
  rho : ∀ id, ¬ (lo ≤ id ∧ id < hi) → ρ' id = ρ id
  old : ∀ id, id < lo → live (g' id) → live (g id)
  new : ∀ id loc, lo ≤ id → live (g' id) → ρ' id = some loc → w.heap.size ≤ loc.blk ∨ Owned g ρ loc.blk
  blocks : ∀ k, k < w.heap.size → ¬ Owned g ρ k → w'.heap[k]? = w.heap[k]?
  fresh : ∀ b o, m' b o ≠ m b o → w.heap.size ≤ b ∨ Owned g ρ b
  size : w.heap.size ≤ w'.heap.size
  os : w'.os = w.os
  tape : w'.tape = w.tape
  output : w'.output = w.output

theorem live_size [Base] {m : Imm} {ρ : Rho} {g : Nat → Ent} {w : World} (hs : Sim m ρ g w) {id : Nat} {loc : Loc} (hl : live (g id)) (hr : ρ id = some loc) : loc.blk < w.heap.size := by
  cases hg : g id with
  | blk cs t =>
    obtain ⟨l, c, e, fz, h1, _, h2, _⟩ := hs.blk id cs hg
    rw [hr] at h1
    cases h1
    rcases Nat.lt_or_ge loc.blk w.heap.size with h | h
    · exact h
    · rw [Array.getElem?_eq_none h] at h2; simp at h2
  | tok =>
    obtain ⟨l, c, e, fz, h1, h2, _⟩ := hs.tok id hg
    rw [hr] at h1
    cases h1
    rcases Nat.lt_or_ge loc.blk w.heap.size with h | h
    · exact h
    · rw [Array.getElem?_eq_none h] at h2; simp at h2
  | dead => simp [hg, live] at hl
  | frz => simp [hg, live] at hl

theorem live_rho [Base] {m : Imm} {ρ : Rho} {g : Nat → Ent} {w : World} (hs : Sim m ρ g w) {id : Nat} (hl : live (g id)) : ∃ loc, ρ id = some loc := by
  cases hg : g id with
  | blk cs t => obtain ⟨l, c, e, fz, h1, _⟩ := hs.blk id cs hg; exact ⟨l, h1⟩
  | tok => obtain ⟨l, c, e, fz, h1, _⟩ := hs.tok id hg; exact ⟨l, h1⟩
  | dead => simp [hg, live] at hl
  | frz => simp [hg, live] at hl

theorem Step.refl [Base] (g : Nat → Ent) (n : Nat) (m : Imm) (ρ : Rho) (w : World) (_hs : Sim m ρ g w) (hf : ∀ id, n ≤ id → ¬ live (g id)) : Step g g n n m ρ w m ρ w :=
  ⟨.refl m, fun _ _ => rfl, fun _ _ h => h, fun id _ h1 h2 _ => absurd h2 (hf id h1), fun _ _ _ => rfl, fun _ _ h => absurd rfl h, Nat.le_refl _, rfl, rfl, rfl⟩

theorem Step.rhoLe {g g' : Nat → Ent} {lo hi : Nat} {m m' : Imm} {ρ ρ' : Rho} {w w' : World} (h : Step g g' lo hi m ρ w m' ρ' w') (hf : ∀ id, lo ≤ id → id < hi → ρ id = none) : ρ.le ρ' := by
  intro id l hl
  rw [h.rho id ?_, hl]
  intro ⟨h1, h2⟩
  rw [hf id h1 h2] at hl
  simp at hl

theorem Owned.step {g g' : Nat → Ent} {lo hi : Nat} {m m' : Imm} {ρ ρ' : Rho} {w w' : World} (h : Step g g' lo hi m ρ w m' ρ' w') {k : Nat} (ho : Owned g' ρ' k) : w.heap.size ≤ k ∨ Owned g ρ k := by
  obtain ⟨id, loc, hl, hr, rfl⟩ := ho
  rcases Nat.lt_or_ge id lo with h1 | h1
  · right
    exact ⟨id, loc, h.old id h1 hl, by rw [← h.rho id (by omega)]; exact hr, rfl⟩
  · exact h.new id loc h1 hl hr

theorem Step.trans {g g' g'' : Nat → Ent} {lo mid hi : Nat} {m m' m'' : Imm} {ρ ρ' ρ'' : Rho} {w w' w'' : World} (h : Step g g' lo mid m ρ w m' ρ' w') (k : Step g' g'' mid hi m' ρ' w' m'' ρ'' w'') (h1 : lo ≤ mid) (h2 : mid ≤ hi) :
    Step g g'' lo hi m ρ w m'' ρ'' w'' := by
  have own : ∀ b, (w'.heap.size ≤ b ∨ Owned g' ρ' b) → w.heap.size ≤ b ∨ Owned g ρ b := by
    intro b hb
    rcases hb with hb | hb
    · exact .inl (Nat.le_trans h.size hb)
    · exact Owned.step h hb
  refine ⟨h.imm.trans k.imm, fun id hid => ?_, fun id hid hl => ?_, fun id loc hid hl hr => ?_, fun b hb ho => ?_, fun b o hne => ?_, Nat.le_trans h.size k.size, k.os.trans h.os, k.tape.trans h.tape, k.output.trans h.output⟩
  · rw [k.rho id (by omega), h.rho id (by omega)]
  · exact h.old id hid (k.old id (by omega) hl)
  · rcases Nat.lt_or_ge id mid with h3 | h3
    · have h4 := k.old id h3 hl
      rw [k.rho id (by omega)] at hr
      exact h.new id loc hid h4 hr
    · exact own _ (k.new id loc h3 hl hr)
  · rw [k.blocks b (Nat.lt_of_lt_of_le hb h.size) ?_, h.blocks b hb ho]
    intro h5
    rcases Owned.step h h5 with h6 | h6
    · omega
    · exact ho h6
  · by_cases e : m' b o = m b o
    · exact own b (k.fresh b o (by rw [e]; exact hne))
    · exact h.fresh b o e

theorem cell_of_block {w w' : World} {b : Nat} (h : w'.heap[b]? = w.heap[b]?) (o : Nat) : w'.cell? ⟨b, o, none⟩ = w.cell? ⟨b, o, none⟩ := by
  simp [World.cell?, h]

/-- What an operation leaves that owned a part of the heap: the rest is as it was. -/
theorem Sim.frame [Base] {g gF gF' g' : Nat → Ent} {lo hi : Nat} {m m' : Imm} {ρ ρ' : Rho} {w w' : World} (hs : Sim m ρ g w) (hs' : Sim m' ρ' gF' w') (h : Step gF gF' lo hi m ρ w m' ρ' w')
    (hfr : ∀ id, lo ≤ id → id < hi → ρ id = none)
    (hF : ∀ id, gF id = g id ∨ gF id = .dead)
    (hg' : ∀ id, (g' id = gF' id ∧ (gF id = g id ∨ lo ≤ id)) ∨ (g' id = g id ∧ gF id = .dead) ∨ g' id = .dead) : Sim m' ρ' g' w' := by
  have rle := h.rhoLe hfr
  -- an old entry outside the part
  have oldne : ∀ id loc, live (g id) → gF id = .dead → ρ id = some loc → loc.blk < w.heap.size ∧ ¬ Owned gF ρ loc.blk := by
    intro id loc hl hd hr
    refine ⟨live_size hs hl hr, ?_⟩
    rintro ⟨j, lj, hj, hrj, hbj⟩
    have hgj : gF j = g j := by
      rcases hF j with e | e
      · exact e
      · rw [e] at hj; simp [live] at hj
    have := hs.inj id j loc lj hl (hgj ▸ hj) hr hrj hbj.symm
    subst this
    rw [hd] at hj
    simp [live] at hj
  have keep : ∀ id loc, live (g id) → gF id = .dead → ρ id = some loc → w'.heap[loc.blk]? = w.heap[loc.blk]? ∧ ∀ o, m' loc.blk o = m loc.blk o := by
    intro id loc hl hd hr
    obtain ⟨h1, h2⟩ := oldne id loc hl hd hr
    refine ⟨h.blocks _ h1 h2, fun o => ?_⟩
    by_cases e : m' loc.blk o = m loc.blk o
    · exact e
    · rcases h.fresh _ _ e with h3 | h3
      · omega
      · exact absurd h3 h2
  refine ⟨hs'.imm, fun id cs hid => ?_, fun id hid => ?_, fun id ps hid => ?_, hs'.base, fun i j li lj hi hj hri hrj hb => ?_⟩
  · rcases hg' id with ⟨e, _⟩ | ⟨e, hd⟩ | e
    · exact hs'.blk id cs (e ▸ hid)
    · rw [e] at hid
      obtain ⟨loc, c, el, fz, h1, h2, h3, h4, h5, h6, h7, h8⟩ := hs.blk id cs hid
      obtain ⟨k1, k2⟩ := keep id loc (by simp [hid, live]) hd h1
      refine ⟨loc, c, el, fz, rle _ _ h1, h2, k1.trans h3, h4, h5, h6, fun i v hv => ⟨(h7 i v hv).1, (h7 i v hv).2.mono h.imm rle⟩, fun o => by rw [k2 o, h8 o]⟩
    · rw [e] at hid; simp at hid
  · rcases hg' id with ⟨e, _⟩ | ⟨e, hd⟩ | e
    · exact hs'.tok id (e ▸ hid)
    · rw [e] at hid
      obtain ⟨loc, c, el, fz, h1, h3, h4, h5, h8⟩ := hs.tok id hid
      obtain ⟨k1, k2⟩ := keep id loc (by simp [hid, live]) hd h1
      exact ⟨loc, c, el, fz, rle _ _ h1, k1.trans h3, h4, h5, fun o ho => by rw [k2 o, h8 o ho]⟩
    · rw [e] at hid; simp at hid
  · rcases hg' id with ⟨e, _⟩ | ⟨e, hd⟩ | e
    · exact hs'.frz id ps (e ▸ hid)
    · rw [e] at hid
      obtain ⟨loc, f, h1, h2⟩ := hs.frz id ps hid
      exact ⟨loc, f, rle _ _ h1, fun i p hp => ⟨(h2 i p hp).1, h.imm _ _ _ (h2 i p hp).2.1, (h2 i p hp).2.2.mono h.imm⟩⟩
    · rw [e] at hid; simp at hid
  · -- two live entries of one block
    have cls : ∀ id loc, live (g' id) → ρ' id = some loc → (live (gF' id) ∧ (w.heap.size ≤ loc.blk ∨ Owned gF ρ loc.blk)) ∨ (live (g id) ∧ gF id = .dead ∧ ρ id = some loc) := by
      intro id loc hl hr
      rcases hg' id with ⟨e, hc⟩ | ⟨e, hd⟩ | e
      · left
        rw [e] at hl
        refine ⟨hl, ?_⟩
        rcases Nat.lt_or_ge id lo with h1 | h1
        · right
          exact ⟨id, loc, h.old id h1 hl, by rw [← h.rho id (by omega)]; exact hr, rfl⟩
        · exact h.new id loc h1 hl hr
      · right
        rw [e] at hl
        obtain ⟨l, h1⟩ := live_rho hs hl
        have := rle _ _ h1
        rw [hr] at this
        cases this
        exact ⟨hl, hd, h1⟩
      · rw [e] at hl; simp [live] at hl
    rcases cls i li hi hri with ⟨a1, a2⟩ | ⟨a1, a2, a3⟩ <;> rcases cls j lj hj hrj with ⟨b1, b2⟩ | ⟨b1, b2, b3⟩
    · exact hs'.inj i j li lj a1 b1 hri hrj hb
    · obtain ⟨k1, k2⟩ := oldne j lj b1 b2 b3
      rw [hb] at a2
      rcases a2 with a2 | a2
      · omega
      · exact absurd a2 k2
    · obtain ⟨k1, k2⟩ := oldne i li a1 a2 a3
      rw [← hb] at b2
      rcases b2 with b2 | b2
      · omega
      · exact absurd b2 k2
    · exact hs.inj i j li lj a1 b1 a3 b3 hb

end Ab
