/- Freezing: a value becomes a pure one. -/
import Derived.Test.YtcggaaheaahinaaDoorAbHeap
namespace Ab
open Go


theorem chunks_length {α : Type} (sz : Nat) : ∀ (n : Nat) (l : List α), (chunks sz n l).length = n
  | 0, _ => rfl
  | n + 1, l => by simp [chunks, chunks_length sz n]

theorem chunks_flat {α : Type} (sz : Nat) : ∀ (n : Nat) (l : List α), l.length = n * sz → (chunks sz n l).flatten = l
  | 0, l, h => by
    have : l = [] := List.eq_nil_of_length_eq_zero (by simpa using h)
    simp [chunks, this]
  | n + 1, l, h => by
    have h1 : (l.drop sz).length = n * sz := by rw [List.length_drop, h, Nat.succ_mul]; omega
    simp [chunks, chunks_flat sz n _ h1]

theorem chunks_size {α : Type} (sz : Nat) : ∀ (n : Nat) (l : List α), l.length = n * sz → ∀ x ∈ chunks sz n l, x.length = sz
  | 0, _, _, x, hx => by simp [chunks] at hx
  | n + 1, l, h, x, hx => by
    have h1 : (l.drop sz).length = n * sz := by rw [List.length_drop, h, Nat.succ_mul]; omega
    simp only [chunks, List.mem_cons] at hx
    rcases hx with rfl | hx
    · rw [List.length_take, h, Nat.succ_mul]; omega
    · exact chunks_size sz n _ h1 x hx

theorem chunks_mem {α : Type} (sz : Nat) : ∀ (n : Nat) (l : List α), ∀ x ∈ chunks sz n l, ∀ c ∈ x, c ∈ l
  | 0, _, x, hx, _, _ => by simp [chunks] at hx
  | n + 1, l, x, hx, c, hc => by
    simp only [chunks, List.mem_cons] at hx
    rcases hx with rfl | hx
    · exact List.mem_of_mem_take hc
    · exact List.mem_of_mem_drop (chunks_mem sz n _ x hx c hc)

/-- Elements made of cells: their cells are those. -/
theorem mkPV_cells {ag : Bool} {cs : List PV} {sz : Nat} (h : ag = true ∨ sz = 1) (hl : cs.length = sz) (hc : ∀ c ∈ cs, c.isCell = true) : (mkPV ag cs).cells = cs := by
  cases ag with
  | true => rfl
  | false =>
    have : sz = 1 := by simpa using h
    subst this
    match cs, hl with
    | [c], _ =>
      have := hc c (by simp)
      simp only [mkPV, List.headD_cons]
      cases c <;> simp_all [PV.cells, PV.isCell]

theorem elems_flat {ag : Bool} {cs : List PV} {sz n : Nat} (h : ag = true ∨ sz = 1) (hl : cs.length = n * sz) (hc : ∀ c ∈ cs, c.isCell = true) :
    ((chunks sz n cs).map (mkPV ag)).flatMap PV.cells = cs ∧ (∀ e ∈ (chunks sz n cs).map (mkPV ag), e.cells.length = sz) ∧ (∀ e ∈ (chunks sz n cs).map (mkPV ag), ∀ c ∈ e.cells, c.isCell = true) := by
  have key : ∀ x ∈ chunks sz n cs, (mkPV ag x).cells = x := fun x hx => mkPV_cells h (chunks_size sz n cs hl x hx) fun c hcx => hc c (chunks_mem sz n cs x hx c hcx)
  refine ⟨?_, fun e he => ?_, fun e he c hce => ?_⟩
  · rw [List.flatMap_map]
    have : (chunks sz n cs).map (fun x => (mkPV ag x).cells) = (chunks sz n cs).map id := List.map_congr_left key
    rw [List.flatMap_def, this, List.map_id]
    exact chunks_flat sz n cs hl
  · obtain ⟨x, hx, rfl⟩ := List.mem_map.1 he
    rw [key x hx]
    exact chunks_size sz n cs hl x hx
  · obtain ⟨x, hx, rfl⟩ := List.mem_map.1 he
    rw [key x hx] at hce
    exact hc c (chunks_mem sz n cs x hx c hce)

theorem cut_some {α : Type} {l r : List α} {off n : Nat} (h : cut l off n = some r) : off + n ≤ l.length ∧ r.length = n ∧ ∀ j, j < n → r[j]? = l[off + j]? := by
  unfold cut at h
  split at h
  · rename_i hle
    cases h
    refine ⟨hle, by simp; omega, fun j hj => ?_⟩
    rw [List.getElem?_take_of_lt hj, List.getElem?_drop]
  · simp at h

theorem cut_mem {α : Type} {l r : List α} {off n : Nat} (h : cut l off n = some r) {x : α} (hx : x ∈ r) : x ∈ l := by
  unfold cut at h
  split at h
  · cases h; exact List.mem_of_mem_drop (List.mem_of_mem_take hx)
  · simp at h

/-- A slice of pure cells that lie in memory. -/
theorem RP.slice {m : Imm} {ps cs : List PV} {b off len sz cap : Nat} {ag : Bool} {f : Nat → Value} (hcut : cut ps off (len * sz) = some cs) (hag : (ag || sz == 1) = true) (hcap : len ≤ cap)
    (hp : ∀ i p, ps[i]? = some p → p.isCell = true ∧ m b i = some (f i) ∧ RP m p (f i)) : RP m (.sl ((chunks sz len cs).map (mkPV ag))) (.slice (some ⟨b, off, none⟩) len cap) := by
  obtain ⟨h1, h2, h3⟩ := cut_some hcut
  have hag' : ag = true ∨ sz = 1 := by simpa using hag
  have hc : ∀ c ∈ cs, c.isCell = true := by
    intro c hc
    obtain ⟨i, hi⟩ := List.getElem?_of_mem (cut_mem hcut hc)
    exact (hp i c hi).1
  obtain ⟨e1, e2, e3⟩ := elems_flat hag' h2 hc
  have hlen : ((chunks sz len cs).map (mkPV ag)).length = len := by simp [chunks_length]
  have at_ : ∀ j c, cs[j]? = some c → ps[off + j]? = some c := by
    intro j c hj
    have hlt : j < len * sz := by
      have := (List.getElem?_eq_some_iff.1 hj).1
      omega
    rw [← h3 j hlt]; exact hj
  have := RP.sl (m := m) ((chunks sz len cs).map (mkPV ag)) b off cap sz (fun j => f (off + j)) e2 e3 (by omega)
    (fun j c hj => by rw [e1] at hj; exact (hp _ c (at_ j c hj)).2.1) (fun j c hj => by rw [e1] at hj; exact (hp _ c (at_ j c hj)).2.2)
  rwa [hlen] at this

/-- A block's cells are fixed for good. -/
theorem Sim.freeze [Base] {m : Imm} {ρ : Rho} {h : Heap} {w : World} (hs : Sim m ρ (ent h) w) {id : Nat} (hlt : id < h.length) (_hid : ent h id = .dead) {loc : Loc} (hloc : ρ id = some loc) {c : Array Value} {e : TypeId} {fz : Nat × Nat}
    (hw : w.heap[loc.blk]? = some (.cells c e fz)) {ps : List PV} (hle : ps.length ≤ c.size) (hp : ∀ i p, ps[i]? = some p → p.isCell = true ∧ RP m p (c.getD i undef)) (hm : ∀ o, m loc.blk o = none)
    (hno : ¬ Owned (ent h) ρ loc.blk) : m.le (m.fill loc.blk 0 ps.length (c.getD · undef)) ∧ Sim (m.fill loc.blk 0 ps.length (c.getD · undef)) ρ (ent (h.set id (.frz ps))) w ∧
      (∀ i p, ps[i]? = some p → p.isCell = true ∧ (m.fill loc.blk 0 ps.length (c.getD · undef)) loc.blk i = some (c.getD i undef) ∧ RP (m.fill loc.blk 0 ps.length (c.getD · undef)) p (c.getD i undef)) := by
  have mle : m.le (m.fill loc.blk 0 ps.length (c.getD · undef)) := Imm.fill_le fun o _ _ => hm o
  have hcells : ∀ i p, ps[i]? = some p → p.isCell = true ∧ (m.fill loc.blk 0 ps.length (c.getD · undef)) loc.blk i = some (c.getD i undef) ∧ RP (m.fill loc.blk 0 ps.length (c.getD · undef)) p (c.getD i undef) := by
    intro i p hi
    have hilt := (List.getElem?_eq_some_iff.1 hi).1
    refine ⟨(hp i p hi).1, ?_, (hp i p hi).2.mono mle⟩
    simp [Imm.fill, hilt]
  have hne : ∀ j l, live (ent h j) → ρ j = some l → l.blk ≠ loc.blk := fun j l hl hr hb => hno ⟨j, l, hl, hr, hb⟩
  have hg := hs.grow mle (.refl ρ) (w' := w) (fun j l hl hr => ⟨rfl, fun o => by simp only [Imm.fill]; rw [if_neg]; exact fun ⟨hb, _⟩ => hne j l hl hr hb⟩)
    (fun b o v hv => by
      simp only [Imm.fill] at hv
      split at hv
      · rename_i h1
        obtain ⟨rfl, _, h2⟩ := h1
        cases hv
        have h3 : o < c.size := Nat.lt_of_lt_of_le h2 hle
        simp [World.cell?, hw, h3]
      · exact hs.imm b o v hv)
  refine ⟨mle, ⟨hg.imm, fun j cs hj => ?_, fun j hj => ?_, fun j ps' hj => ?_, hg.base, fun i j li lj hi hj hri hrj hb => ?_⟩, hcells⟩
  · by_cases hji : id = j
    · subst hji; rw [ent_set_self hlt] at hj; simp at hj
    · rw [ent_set_ne hji] at hj; exact hg.blk j cs hj
  · by_cases hji : id = j
    · subst hji; rw [ent_set_self hlt] at hj; simp at hj
    · rw [ent_set_ne hji] at hj; exact hg.tok j hj
  · by_cases hji : id = j
    · subst hji
      rw [ent_set_self hlt] at hj
      cases hj
      exact ⟨loc, (c.getD · undef), hloc, hcells⟩
    · rw [ent_set_ne hji] at hj; exact hg.frz j ps' hj
  · have lv : ∀ j, live (ent (h.set id (.frz ps)) j) → live (ent h j) := by
      intro j hj
      by_cases hji : id = j
      · subst hji; rw [ent_set_self hlt] at hj; simp [live] at hj
      · rwa [ent_set_ne hji] at hj
    exact hg.inj i j li lj (lv i hi) (lv j hj) hri hrj hb

def SnapOk [Base] (v : V) (h : Heap) (p : PV) (h' : Heap) : Prop :=
  h'.length = h.length ∧ (v.isCell = true → p.isCell = true) ∧ ∀ m ρ w cv, Sim m ρ (ent h) w → R m ρ v cv → ∃ m', RP m' p cv ∧ Sim m' ρ (ent h') w ∧ Step (ent h) (ent h') h.length h.length m ρ w m' ρ w

def SnapLOk [Base] (vs : List V) (h : Heap) (ps : List PV) (h' : Heap) : Prop :=
  h'.length = h.length ∧ ps.length = vs.length ∧ (∀ (i : Nat) (v : V) (p : PV), vs[i]? = some v → ps[i]? = some p → v.isCell = true → p.isCell = true) ∧
  ∀ m ρ w (f : Nat → Value), Sim m ρ (ent h) w → (∀ i v, vs[i]? = some v → R m ρ v (f i)) → ∃ m', (∀ i p, ps[i]? = some p → RP m' p (f i)) ∧ Sim m' ρ (ent h') w ∧ Step (ent h) (ent h') h.length h.length m ρ w m' ρ w

theorem Step.refl' (h : Heap) (m : Imm) (ρ : Rho) (w : World) : Step (ent h) (ent h) h.length h.length m ρ w m ρ w :=
  ⟨.refl m, fun _ _ => rfl, fun _ _ h => h, fun _ _ h1 h2 _ => absurd h2 (not_live_ge h1), fun _ _ _ => rfl, fun _ _ h => absurd rfl h, Nat.le_refl _, rfl, rfl, rfl⟩

theorem snapL_ok [Base] {n : Nat} (hn : ∀ v h p h', snap n v h = some (p, h') → SnapOk v h p h') : ∀ (vs : List V) (h : Heap) (ps : List PV) (h' : Heap), snapLF (snap n) vs h = some (ps, h') → SnapLOk vs h ps h'
  | [], h, ps, h', hq => by
    simp only [snapLF, Option.some.injEq, Prod.mk.injEq] at hq
    obtain ⟨rfl, rfl⟩ := hq
    exact ⟨rfl, rfl, by simp, fun m ρ w f hs _ => ⟨m, by simp, hs, .refl' _ _ _ _⟩⟩
  | v :: vs, h, ps, h', hq => by
    simp only [snapLF] at hq
    split at hq
    · rename_i p h1 hp
      split at hq
      · rename_i ps' h2 hps
        simp only [Option.some.injEq, Prod.mk.injEq] at hq
        obtain ⟨rfl, rfl⟩ := hq
        obtain ⟨a1, a2, a3⟩ := hn v h p h1 hp
        obtain ⟨b1, b2, b3, b4⟩ := snapL_ok hn vs h1 ps' h2 hps
        refine ⟨b1.trans a1, by simp [b2], fun i v' p' hv hp' hc => ?_, fun m ρ w f hs hf => ?_⟩
        · cases i with
          | zero => simp at hv hp'; subst hv hp'; exact a2 hc
          | succ i => simp at hv hp'; exact b3 i v' p' hv hp' hc
        · obtain ⟨m1, r1, s1, t1⟩ := a3 m ρ w (f 0) hs (hf 0 v rfl)
          obtain ⟨m2, r2, s2, t2⟩ := b4 m1 ρ w (fun i => f (i + 1)) s1 (fun i u hu => (hf (i + 1) u (by simpa using hu)).mono t1.imm (.refl ρ))
          refine ⟨m2, fun i q hi => ?_, s2, ?_⟩
          · cases i with
            | zero => simp at hi; subst hi; exact r1.mono t2.imm
            | succ i => simp at hi; exact r2 i q hi
          · rw [a1] at t2
            exact t1.trans t2 (Nat.le_refl _) (Nat.le_refl _)
      · simp at hq
    · simp at hq

/-- The way through a block: its cells first, then it. -/
theorem snap_block [Base] {n : Nat} (hn : ∀ v h p h', snap n v h = some (p, h') → SnapOk v h p h') {h h1 : Heap} {id : Nat} {cs : List V} {t : Option TypeId} {ps : List PV} (hid : ent h id = .blk cs t) (hq : snapLF (snap n) cs (h.set id .dead) = some (ps, h1)) :
    (h1.set id (.frz ps)).length = h.length ∧ ∀ m ρ w, Sim m ρ (ent h) w → ∃ m', ∃ loc : Loc, ∃ f : Nat → Value, ρ id = some loc ∧ (∀ i p, ps[i]? = some p → p.isCell = true ∧ m' loc.blk i = some (f i) ∧ RP m' p (f i)) ∧
      Sim m' ρ (ent (h1.set id (.frz ps))) w ∧ Step (ent h) (ent (h1.set id (.frz ps))) h.length h.length m ρ w m' ρ w := by
  obtain ⟨b1, b2, b3, b4⟩ := snapL_ok hn _ _ _ _ hq
  have hlt : id < h.length := ent_lt (by rw [hid]; simp)
  have hl0 : (h.set id Ent.dead).length = h.length := by simp
  refine ⟨by simp [b1], fun m ρ w hs => ?_⟩
  obtain ⟨loc, c, e, fz, h1', hlo, h2, h3, h4, h5, h6, h7⟩ := hs.blk id cs hid
  have hlive : live (ent h id) := by rw [hid]; simp [live]
  obtain ⟨m1, r1, s1, t1⟩ := b4 m ρ w (c.getD · undef) (hs.kill id) (fun i v hv => (h6 i v hv).2)
  rw [hl0] at b1 t1
  have hd1 : ¬ live (ent h1 id) := by
    intro hl
    have := t1.old id hlt hl
    rw [ent_set_self hlt] at this
    simp [live] at this
  have notown0 : ∀ j l, live (ent (h.set id Ent.dead) j) → ρ j = some l → l.blk ≠ loc.blk := by
    intro j l hl hr hb
    by_cases hji : id = j
    · subst hji; rw [ent_set_self hlt] at hl; simp [live] at hl
    · rw [ent_set_ne hji] at hl
      exact hji (hs.inj j id l loc hl hlive hr h1' hb).symm
  have no0 : ¬ Owned (ent (h.set id Ent.dead)) ρ loc.blk := fun ⟨j, l, hl, hr, hb⟩ => notown0 j l hl hr hb
  have no1 : ¬ Owned (ent h1) ρ loc.blk := by
    rintro ⟨j, l, hl, hr, hb⟩
    have hj : j < h1.length := ent_lt (by intro e; rw [e] at hl; simp [live] at hl)
    exact notown0 j l (t1.old j (by omega) hl) hr hb
  have hblt := live_size hs hlive h1'
  have hm1 : ∀ o, m1 loc.blk o = none := by
    intro o
    by_cases e : m1 loc.blk o = m loc.blk o
    · rw [e, h7 o]
    · rcases t1.fresh _ _ e with h8 | h8
      · omega
      · exact absurd h8 no0
  -- the entry is dead in h1
  have hkill : ent (h1.set id .dead) id = .dead := by rw [ent_set_self (by omega)]
  have s1' := s1.kill id
  have no1' : ¬ Owned (ent (h1.set id .dead)) ρ loc.blk := by
    rintro ⟨j, l, hl, hr, hb⟩
    by_cases hji : id = j
    · subst hji; rw [hkill] at hl; simp [live] at hl
    · rw [ent_set_ne hji] at hl; exact no1 ⟨j, l, hl, hr, hb⟩
  have hcell : ∀ i p, ps[i]? = some p → p.isCell = true ∧ RP m1 p (c.getD i undef) := by
    intro i p hi
    have hi' := (List.getElem?_eq_some_iff.1 hi).1
    have : i < cs.length := by omega
    exact ⟨b3 i cs[i] p (List.getElem?_eq_getElem this) hi (h6 i _ (List.getElem?_eq_getElem this)).1, r1 i p hi⟩
  obtain ⟨mle, s2, k2⟩ := s1'.freeze (id := id) (by simp; omega) hkill h1' h2 (by omega) hcell hm1 no1'
  rw [List.set_set] at s2
  refine ⟨_, loc, _, h1', k2, s2, ⟨t1.imm.trans mle, fun _ _ => rfl, fun j hj hl => ?_, fun j l hj hl hr => ?_, fun _ _ _ => rfl, fun b o hne => ?_, Nat.le_refl _, rfl, rfl, rfl⟩⟩
  · by_cases hji : id = j
    · subst hji; exact hlive
    · rw [ent_set_ne hji] at hl
      have := t1.old j hj hl
      rwa [ent_set_ne hji] at this
  · rw [ent_ge (by simp; omega)] at hl; simp [live] at hl
  · have hoid : Owned (ent h) ρ loc.blk := ⟨id, loc, hlive, h1', rfl⟩
    by_cases e : m1 b o = m b o
    · simp only [Imm.fill] at hne
      split at hne
      · rename_i h8; right; rw [h8.1]; exact hoid
      · exact absurd e hne
    · rcases t1.fresh b o e with h8 | ⟨j, l, hl, hr, hb⟩
      · exact .inl h8
      · right
        by_cases hji : id = j
        · subst hji; rw [ent_set_self hlt] at hl; simp [live] at hl
        · rw [ent_set_ne hji] at hl; exact ⟨j, l, hl, hr, hb⟩

theorem snap_ok [Base] : ∀ (n : Nat) (v : V) (h : Heap) (p : PV) (h' : Heap), snap n v h = some (p, h') → SnapOk v h p h' := by
  intro n
  induction n with
  | zero => intro v h p h' hq; simp [snap] at hq
  | succ n ih =>
    intro v h p h' hq
    cases v with
    | pv q =>
      simp only [snap, Option.some.injEq, Prod.mk.injEq] at hq
      obtain ⟨rfl, rfl⟩ := hq
      exact ⟨rfl, fun h => h, fun m ρ w cv hs hr => by cases hr with | pv _ _ hp => exact ⟨m, hp, hs, .refl' _ _ _ _⟩⟩
    | slt es tok =>
      simp only [snap, Option.some.injEq, Prod.mk.injEq] at hq
      obtain ⟨rfl, rfl⟩ := hq
      exact ⟨rfl, fun _ => rfl, fun m ρ w cv hs hr => by cases hr with | slt _ _ _ _ _ _ _ _ hp => exact ⟨m, hp, hs, .refl' _ _ _ _⟩⟩
    | slx es =>
      simp only [snap, Option.some.injEq, Prod.mk.injEq] at hq
      obtain ⟨rfl, rfl⟩ := hq
      exact ⟨rfl, fun _ => rfl, fun m ρ w cv hs hr => by cases hr with | slx _ _ _ hp => exact ⟨m, hp, hs, .refl' _ _ _ _⟩⟩
    | nils =>
      simp only [snap, Option.some.injEq, Prod.mk.injEq] at hq
      obtain ⟨rfl, rfl⟩ := hq
      exact ⟨rfl, fun _ => rfl, fun m ρ w cv hs hr => by cases hr; exact ⟨m, .sl0 _ _, hs, .refl' _ _ _ _⟩⟩
    | agg cs =>
      simp only [snap] at hq
      split at hq
      · rename_i ps h1 hps
        simp only [Option.some.injEq, Prod.mk.injEq] at hq
        obtain ⟨rfl, rfl⟩ := hq
        obtain ⟨b1, b2, b3, b4⟩ := snapL_ok ih _ _ _ _ hps
        refine ⟨b1, fun h => by simp [V.isCell] at h, fun m ρ w cv hs hr => ?_⟩
        cases hr with
        | agg _ vs hcell hl hr =>
          obtain ⟨m1, r1, s1, t1⟩ := b4 m ρ w (vs.getD · undef) hs hr
          refine ⟨m1, .agg ps vs (fun c hc => ?_) (by omega) r1, s1, t1⟩
          obtain ⟨i, hi⟩ := List.getElem?_of_mem hc
          have hi' := (List.getElem?_eq_some_iff.1 hi).1
          have : i < cs.length := by omega
          exact b3 i cs[i] c (List.getElem?_eq_getElem this) hi (hcell _ (List.getElem_mem _))
      · simp at hq
    | fn f cs =>
      simp only [snap] at hq
      split at hq
      · rename_i ps h1 hps
        simp only [Option.some.injEq, Prod.mk.injEq] at hq
        obtain ⟨rfl, rfl⟩ := hq
        obtain ⟨b1, b2, b3, b4⟩ := snapL_ok ih _ _ _ _ hps
        refine ⟨b1, fun _ => rfl, fun m ρ w cv hs hr => ?_⟩
        cases hr with
        | fn _ _ vs hl hr =>
          obtain ⟨m1, r1, s1, t1⟩ := b4 m ρ w (vs.getD · undef) hs hr
          exact ⟨m1, .fn f ps vs (by omega) r1, s1, t1⟩
      · simp at hq
    | ptr id off =>
      simp only [snap] at hq
      split at hq
      · rename_i ps hid
        simp only [Option.some.injEq, Prod.mk.injEq] at hq
        obtain ⟨rfl, rfl⟩ := hq
        refine ⟨rfl, fun _ => rfl, fun m ρ w cv hs hr => ?_⟩
        cases hr with
        | ptr _ _ loc hloc =>
          obtain ⟨l, f, h1, h2⟩ := hs.frz id ps hid
          rw [hloc] at h1
          cases h1
          refine ⟨m, ?_, hs, .refl' _ _ _ _⟩
          have := RP.ip (m := m) ps loc.blk 0 off f (fun c hc => by obtain ⟨i, hi⟩ := List.getElem?_of_mem hc; exact (h2 i c hi).1) (fun j c hj => by rw [Nat.zero_add]; exact (h2 j c hj).2.1) (fun j c hj => (h2 j c hj).2.2)
          rwa [Nat.zero_add] at this
      · rename_i cs hid
        split at hq
        · rename_i ps h1 hps
          simp only [Option.some.injEq, Prod.mk.injEq] at hq
          obtain ⟨rfl, rfl⟩ := hq
          obtain ⟨k1, k2⟩ := snap_block ih hid hps
          refine ⟨k1, fun _ => rfl, fun m ρ w cv hs hr => ?_⟩
          obtain ⟨m', loc, f, e1, e2, e3, e4⟩ := k2 m ρ w hs
          cases hr with
          | ptr _ _ loc' hloc =>
            rw [hloc] at e1
            cases e1
            refine ⟨m', ?_, e3, e4⟩
            have := RP.ip (m := m') ps loc.blk 0 off f (fun c hc => by obtain ⟨i, hi⟩ := List.getElem?_of_mem hc; exact (e2 i c hi).1) (fun j c hj => by rw [Nat.zero_add]; exact (e2 j c hj).2.1) (fun j c hj => (e2 j c hj).2.2)
            rwa [Nat.zero_add] at this
        · simp at hq
      · simp at hq
    | sln id off len sz ag =>
      simp only [snap] at hq
      split at hq
      · rename_i ps hid
        split at hq
        · rename_i cs hcut
          split at hq
          · rename_i hag
            simp only [Option.some.injEq, Prod.mk.injEq] at hq
            obtain ⟨rfl, rfl⟩ := hq
            refine ⟨rfl, fun _ => rfl, fun m ρ w cv hs hr => ?_⟩
            cases hr with
            | sln _ _ _ _ _ loc cap hloc hcap hsize =>
              obtain ⟨l, f, h1, h2⟩ := hs.frz id ps hid
              rw [hloc] at h1
              cases h1
              exact ⟨m, RP.slice hcut hag hcap h2, hs, .refl' _ _ _ _⟩
          · simp at hq
        · simp at hq
      · rename_i cs hid
        split at hq
        · rename_i ps h1 hps
          split at hq
          · rename_i cs' hcut
            split at hq
            · rename_i hag
              simp only [Option.some.injEq, Prod.mk.injEq] at hq
              obtain ⟨rfl, rfl⟩ := hq
              obtain ⟨k1, k2⟩ := snap_block ih hid hps
              refine ⟨k1, fun _ => rfl, fun m ρ w cv hs hr => ?_⟩
              obtain ⟨m', loc, f, e1, e2, e3, e4⟩ := k2 m ρ w hs
              cases hr with
              | sln _ _ _ _ _ loc' cap hloc hcap hsize =>
                rw [hloc] at e1
                cases e1
                exact ⟨m', RP.slice hcut hag hcap e2, e3, e4⟩
            · simp at hq
          · simp at hq
        · simp at hq
      · simp at hq
    | tup vs => simp [snap] at hq

end Ab
