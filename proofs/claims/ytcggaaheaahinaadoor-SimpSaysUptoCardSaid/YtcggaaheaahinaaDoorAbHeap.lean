/- Steps of the heap: a new block, a write, a freeze. -/
import Derived.Test.YtcggaaheaahinaaDoorAbSim
namespace Ab
open Go

theorem ent_append_lt {h : Heap} {e : List Ent} {i : Nat} (hi : i < h.length) : ent (h ++ e) i = ent h i := by
  simp [ent, List.getElem?_append_left hi]

theorem ent_append_self {h : Heap} {e : Ent} : ent (h ++ [e]) h.length = e := by
  simp [ent]

theorem ent_ge {h : Heap} {i : Nat} (hi : h.length ≤ i) : ent h i = .dead := by
  simp [ent, List.getElem?_eq_none hi]

theorem ent_set_self {h : Heap} {i : Nat} {e : Ent} (hi : i < h.length) : ent (h.set i e) i = e := by
  simp [ent, hi]

theorem ent_set_ne {h : Heap} {i j : Nat} {e : Ent} (hij : i ≠ j) : ent (h.set i e) j = ent h j := by
  simp [ent, List.getElem?_set_ne hij]

theorem ent_lt {h : Heap} {i : Nat} (hi : ent h i ≠ .dead) : i < h.length := by
  rcases Nat.lt_or_ge i h.length with h1 | h1
  · exact h1
  · exact absurd (ent_ge h1) hi

def Rho.upd (ρ : Rho) (id : Nat) (l : Loc) : Rho := fun i => if i = id then some l else ρ i
def Imm.fill (m : Imm) (b : Nat) (lo hi : Nat) (f : Nat → Value) : Imm := fun b' o => if b' = b ∧ lo ≤ o ∧ o < hi then some (f o) else m b' o

theorem Rho.upd_le {ρ : Rho} {id : Nat} {l : Loc} (h : ρ id = none) : ρ.le (ρ.upd id l) := by
  intro i k hk
  simp only [Rho.upd]
  split
  · rename_i e; subst e; rw [h] at hk; simp at hk
  · exact hk

theorem Imm.fill_le {m : Imm} {b lo hi : Nat} {f : Nat → Value} (h : ∀ o, lo ≤ o → o < hi → m b o = none) : m.le (m.fill b lo hi f) := by
  intro b' o v hv
  simp only [Imm.fill]
  split
  · rename_i e; obtain ⟨rfl, h1, h2⟩ := e; rw [h o h1 h2] at hv; simp at hv
  · exact hv


theorem Sim.congr [Base] {m : Imm} {ρ : Rho} {g g' : Nat → Ent} {w w' : World} (hs : Sim m ρ g w) (hw : w'.heap = w.heap) (hg : ∀ i, g' i = g i) : Sim m ρ g' w' := by
  obtain rfl : g' = g := funext hg
  refine ⟨fun b o v h => ?_, fun id cs h => ?_, fun id h => ?_, hs.frz, hs.base, hs.inj⟩
  · have := hs.imm b o v h; simpa [World.cell?, hw] using this
  · rw [hw]; exact hs.blk id cs h
  · rw [hw]; exact hs.tok id h

theorem Step.congr {g g' : Nat → Ent} {lo hi : Nat} {m m' : Imm} {ρ ρ' : Rho} {w w1 w' w2 : World} (h : Step g g' lo hi m ρ w m' ρ' w') (h1 : w1.heap = w.heap) (h2 : w2.heap = w'.heap)
    (ho : w2.os = w1.os) (ht : w2.tape = w1.tape) (hp : w2.output = w1.output) : Step g g' lo hi m ρ w1 m' ρ' w2 :=
  ⟨h.imm, h.rho, h.old, by rw [h1]; exact h.new, by rw [h1, h2]; exact h.blocks, by rw [h1]; exact h.fresh, by rw [h1, h2]; exact h.size, ho, ht, hp⟩

/-- The rest of the heap, where nothing that is owned or fixed has turned. -/
theorem Sim.grow [Base] {m m' : Imm} {ρ ρ' : Rho} {g : Nat → Ent} {w w' : World} (hs : Sim m ρ g w) (hm : m.le m') (hρ : ρ.le ρ')
    (hb : ∀ id loc, live (g id) → ρ id = some loc → w'.heap[loc.blk]? = w.heap[loc.blk]? ∧ ∀ o, m' loc.blk o = m loc.blk o)
    (hi : ∀ b o v, m' b o = some v → w'.cell? ⟨b, o, none⟩ = some v) : Sim m' ρ' g w' := by
  refine ⟨hi, fun id cs h => ?_, fun id h => ?_, fun id ps h => ?_, hs.base.trans hm, fun i j li lj h1 h2 h3 h4 h5 => ?_⟩
  · obtain ⟨loc, c, e, fz, h1, h2, h3, h4, h5, h6, h7, h8⟩ := hs.blk id cs h
    obtain ⟨k1, k2⟩ := hb id loc (by simp [h, live]) h1
    exact ⟨loc, c, e, fz, hρ _ _ h1, h2, k1.trans h3, h4, h5, h6, fun i v hv => ⟨(h7 i v hv).1, (h7 i v hv).2.mono hm hρ⟩, fun o => by rw [k2 o, h8 o]⟩
  · obtain ⟨loc, c, e, fz, h1, h3, h4, h5, h8⟩ := hs.tok id h
    obtain ⟨k1, k2⟩ := hb id loc (by simp [h, live]) h1
    exact ⟨loc, c, e, fz, hρ _ _ h1, k1.trans h3, h4, h5, fun o ho => by rw [k2 o, h8 o ho]⟩
  · obtain ⟨loc, f, h1, h2⟩ := hs.frz id ps h
    exact ⟨loc, f, hρ _ _ h1, fun i p hp => ⟨(h2 i p hp).1, hm _ _ _ (h2 i p hp).2.1, (h2 i p hp).2.2.mono hm⟩⟩
  · obtain ⟨l1, e1⟩ := live_rho hs h1
    obtain ⟨l2, e2⟩ := live_rho hs h2
    have a1 := hρ _ _ e1; rw [h3] at a1; cases a1
    have a2 := hρ _ _ e2; rw [h4] at a2; cases a2
    exact hs.inj i j li lj h1 h2 e1 e2 h5

theorem cell_push {w : World} {o : Obj} {b off : Nat} {v : Value} (h : w.cell? ⟨b, off, none⟩ = some v) : World.cell? { w with heap := w.heap.push o } ⟨b, off, none⟩ = some v := by
  have hb : b < w.heap.size := by
    rcases Nat.lt_or_ge b w.heap.size with h1 | h1
    · exact h1
    · simp [World.cell?, Array.getElem?_eq_none h1] at h
  simp only [World.cell?] at h ⊢
  rw [Array.getElem?_push_lt hb]
  simpa [Array.getElem?_eq_getElem hb] using h

theorem imm_lt [Base] {m : Imm} {ρ : Rho} {g : Nat → Ent} {w : World} (hs : Sim m ρ g w) {b o : Nat} (h : w.heap.size ≤ b) : m b o = none := by
  cases hm : m b o with
  | none => rfl
  | some v =>
    have := hs.imm b o v hm
    simp [World.cell?, Array.getElem?_eq_none h] at this

/-- A new entry is added to a heap of lists: what is live in it. -/
theorem live_append {h : Heap} {e : Ent} {id : Nat} (hl : live (ent (h ++ [e]) id)) : (id < h.length ∧ live (ent h id)) ∨ (id = h.length ∧ live e) := by
  rcases Nat.lt_trichotomy id h.length with h1 | h1 | h1
  · left; rw [ent_append_lt h1] at hl; exact ⟨h1, hl⟩
  · right; subst h1; rw [ent_append_self] at hl; exact ⟨rfl, hl⟩
  · rw [ent_ge (by simp; omega)] at hl; simp [live] at hl

theorem not_live_ge {h : Heap} {id : Nat} (hi : h.length ≤ id) : ¬ live (ent h id) := by
  rw [ent_ge hi]; simp [live]

/-- A NEW BLOCK OF THE FUNCTION's OWN. -/
theorem Sim.alloc [Base] {m : Imm} {ρ : Rho} {h : Heap} {w : World} (hs : Sim m ρ (ent h) w) (hf : ρ h.length = none) (cs : List V) (c : Array Value) (e : TypeId) (t : Option TypeId) (hte : ∀ x, t = some x → e = x)
    (hl : cs.length ≤ c.size) (hr : ∀ i v, cs[i]? = some v → v.isCell = true ∧ R m ρ v (c.getD i undef)) :
    Sim m (ρ.upd h.length ⟨w.heap.size, c.size, 0⟩) (ent (h ++ [.blk cs t])) { w with heap := w.heap.push (.cells c e (0, 0)) } ∧
    Step (ent h) (ent (h ++ [.blk cs t])) h.length (h ++ [Ent.blk cs t]).length m ρ w m (ρ.upd h.length ⟨w.heap.size, c.size, 0⟩) { w with heap := w.heap.push (.cells c e (0, 0)) } := by
  have rle : ρ.le (ρ.upd h.length ⟨w.heap.size, c.size, 0⟩) := Rho.upd_le hf
  have hg := hs.grow (m' := m) (w' := { w with heap := w.heap.push (.cells c e (0, 0)) }) (.refl m) rle
    (fun id loc hl hr => ⟨by simp only; rw [Array.getElem?_push_lt (live_size hs hl hr)]; exact (Array.getElem?_eq_getElem _).symm, fun _ => rfl⟩) (fun b o v hv => cell_push (hs.imm b o v hv))
  have hself : (ρ.upd h.length ⟨w.heap.size, c.size, 0⟩) h.length = some ⟨w.heap.size, c.size, 0⟩ := by simp [Rho.upd]
  refine ⟨⟨hg.imm, fun id cs' hid => ?_, fun id hid => ?_, fun id ps hid => ?_, hg.base, fun i j li lj hi hj hri hrj hb => ?_⟩, ⟨.refl m, fun id hid => ?_, fun id hid hl => ?_, fun id loc hid hl hr => ?_, fun k hk _ => ?_, fun b o hne => absurd rfl hne, by simp, rfl, rfl, rfl⟩⟩
  · rcases Nat.lt_trichotomy id h.length with h1 | h1 | h1
    · rw [ent_append_lt h1] at hid; exact hg.blk id cs' hid
    · subst h1
      rw [ent_append_self] at hid
      cases hid
      exact ⟨_, c, e, (0, 0), hself, ⟨rfl, hte⟩, by simp, rfl, .inl rfl, hl, fun i v hv => ⟨(hr i v hv).1, (hr i v hv).2.mono (.refl m) rle⟩, fun o => imm_lt hs (Nat.le_refl _)⟩
    · rw [ent_ge (by simp; omega)] at hid; simp at hid
  · rcases Nat.lt_trichotomy id h.length with h1 | h1 | h1
    · rw [ent_append_lt h1] at hid; exact hg.tok id hid
    · subst h1; rw [ent_append_self] at hid; simp at hid
    · rw [ent_ge (by simp; omega)] at hid; simp at hid
  · rcases Nat.lt_trichotomy id h.length with h1 | h1 | h1
    · rw [ent_append_lt h1] at hid; exact hg.frz id ps hid
    · subst h1; rw [ent_append_self] at hid; simp at hid
    · rw [ent_ge (by simp; omega)] at hid; simp at hid
  · rcases live_append hi with ⟨a1, a2⟩ | ⟨a1, _⟩ <;> rcases live_append hj with ⟨b1, b2⟩ | ⟨b1, _⟩
    · exact hg.inj i j li lj a2 b2 hri hrj hb
    · subst b1
      rw [hself] at hrj; cases hrj
      have : ρ i = some li := by simpa [Rho.upd, Nat.ne_of_lt a1] using hri
      have := live_size hs a2 this
      simp at hb; omega
    · subst a1
      rw [hself] at hri; cases hri
      have : ρ j = some lj := by simpa [Rho.upd, Nat.ne_of_lt b1] using hrj
      have := live_size hs b2 this
      simp at hb; omega
    · omega
  · simp only [Rho.upd]
    rw [if_neg]
    rintro rfl
    exact hid ⟨Nat.le_refl _, by simp⟩
  · rw [ent_append_lt hid] at hl; exact hl
  · rcases live_append hl with ⟨a1, _⟩ | ⟨a1, _⟩
    · omega
    · subst a1; rw [hself] at hr; cases hr; exact .inl (Nat.le_refl _)
  · simp only; rw [Array.getElem?_push_lt hk]; exact (Array.getElem?_eq_getElem _).symm

/-- NEW MEMORY THAT NEVER CHANGES: no entry. -/
theorem Sim.allocImm [Base] {m : Imm} {ρ : Rho} {g : Nat → Ent} {n : Nat} {w : World} (hs : Sim m ρ g w) (hn : ∀ id, n ≤ id → ¬ live (g id)) (c : Array Value) (e : TypeId) (fz : Nat × Nat) :
    Sim (m.fill w.heap.size 0 c.size (c.getD · undef)) ρ g { w with heap := w.heap.push (.cells c e fz) } ∧
    Step g g n n m ρ w (m.fill w.heap.size 0 c.size (c.getD · undef)) ρ { w with heap := w.heap.push (.cells c e fz) } := by
  have mle : m.le (m.fill w.heap.size 0 c.size (c.getD · undef)) := Imm.fill_le fun o _ _ => imm_lt hs (Nat.le_refl _)
  refine ⟨hs.grow mle (.refl ρ) (fun id loc hl hr => ?_) (fun b o v hv => ?_), ⟨mle, fun _ _ => rfl, fun _ _ h => h, fun id _ h1 h2 _ => absurd h2 (hn id h1), fun k hk _ => ?_, fun b o hne => ?_, by simp, rfl, rfl, rfl⟩⟩
  · have := live_size hs hl hr
    refine ⟨by simp only; rw [Array.getElem?_push_lt this]; exact (Array.getElem?_eq_getElem _).symm, fun o => ?_⟩
    simp only [Imm.fill]
    rw [if_neg (by omega)]
  · simp only [Imm.fill] at hv
    split at hv
    · rename_i h1
      obtain ⟨rfl, _, h2⟩ := h1
      cases hv
      simp [World.cell?, h2]
    · exact cell_push (hs.imm b o v hv)
  · simp only; rw [Array.getElem?_push_lt hk]; exact (Array.getElem?_eq_getElem _).symm
  · simp only [Imm.fill] at hne
    split at hne
    · rename_i h1; exact .inl (by omega)
    · exact absurd rfl hne

/-- A WRITE INTO A BLOCK OF THE FUNCTION's OWN. -/
theorem Sim.write [Base] {m : Imm} {ρ : Rho} {h : Heap} {w : World} (hs : Sim m ρ (ent h) w) {id : Nat} {cs : List V} {t : Option TypeId} (hid : ent h id = .blk cs t) (cs' : List V) (w' : World) (c' : Array Value) (loc : Loc) (e : TypeId) (fz : Nat × Nat) (hte : ∀ x, t = some x → e = x)
    (hloc : ρ id = some loc) (hw : w'.heap[loc.blk]? = some (.cells c' e fz)) (hsz : c'.size = loc.size) (hfz : free fz c'.size) (hl : cs'.length ≤ c'.size) (hr : ∀ i v, cs'[i]? = some v → v.isCell = true ∧ R m ρ v (c'.getD i undef))
    (hrest : ∀ k, k ≠ loc.blk → w'.heap[k]? = w.heap[k]?) (hsize : w'.heap.size = w.heap.size) (ho : w'.os = w.os) (ht : w'.tape = w.tape) (hp : w'.output = w.output) :
    Sim m ρ (ent (h.set id (.blk cs' t))) w' ∧ Step (ent h) (ent (h.set id (.blk cs' t))) h.length (h.set id (Ent.blk cs' t)).length m ρ w m ρ w' := by
  have hlt : id < h.length := ent_lt (by rw [hid]; simp)
  have hlive : live (ent h id) := by rw [hid]; simp [live]
  obtain ⟨loc0, c, e0, fz0, h1, hlo, h2, h3, h4, h5, h6, h7⟩ := hs.blk id cs hid
  rw [hloc] at h1
  cases h1
  have other : ∀ j l, j ≠ id → live (ent h j) → ρ j = some l → l.blk ≠ loc.blk := by
    intro j l hj hl hr hb
    exact hj (hs.inj j id l loc hl hlive hr hloc hb)
  refine ⟨⟨fun b o v hv => ?_, fun j cs2 hj => ?_, fun j hj => ?_, fun j ps hj => ?_, hs.base, fun i j li lj hi hj hri hrj hb => ?_⟩, ⟨.refl m, fun _ _ => rfl, fun j hj hl => ?_, fun j l hj hl _ => ?_, fun k hk hno => ?_, fun _ _ h => absurd rfl h, by omega, ho, ht, hp⟩⟩
  · by_cases hb : b = loc.blk
    · subst hb; rw [h7 o] at hv; simp at hv
    · rw [cell_of_block (hrest b hb)]; exact hs.imm b o v hv
  · by_cases hji : j = id
    · subst hji
      rw [ent_set_self hlt] at hj
      cases hj
      exact ⟨loc, c', e, fz, hloc, ⟨hlo.1, hte⟩, hw, hsz, hfz, hl, hr, h7⟩
    · rw [ent_set_ne (Ne.symm hji)] at hj
      obtain ⟨l, c2, e2, fz2, k1, k2, k3, k4⟩ := hs.blk j cs2 hj
      exact ⟨l, c2, e2, fz2, k1, k2, by rw [hrest _ (other j l hji (by rw [hj]; simp [live]) k1)]; exact k3, k4⟩
  · by_cases hji : j = id
    · subst hji; rw [ent_set_self hlt] at hj; simp at hj
    · rw [ent_set_ne (Ne.symm hji)] at hj
      obtain ⟨l, c2, e2, fz2, k1, k3, k4⟩ := hs.tok j hj
      exact ⟨l, c2, e2, fz2, k1, by rw [hrest _ (other j l hji (by rw [hj]; simp [live]) k1)]; exact k3, k4⟩
  · by_cases hji : j = id
    · subst hji; rw [ent_set_self hlt] at hj; simp at hj
    · rw [ent_set_ne (Ne.symm hji)] at hj
      exact hs.frz j ps hj
  · have lv : ∀ j, live (ent (h.set id (.blk cs' t)) j) → live (ent h j) := by
      intro j hj
      by_cases hji : j = id
      · subst hji; exact hlive
      · rwa [ent_set_ne (Ne.symm hji)] at hj
    exact hs.inj i j li lj (lv i hi) (lv j hj) hri hrj hb
  · by_cases hji : j = id
    · subst hji; exact hlive
    · rwa [ent_set_ne (Ne.symm hji)] at hl
  · rw [ent_ge (by simpa using hj)] at hl; simp [live] at hl
  · refine hrest k fun e => hno ⟨id, loc, hlive, hloc, e.symm⟩

/-- A block is no longer owned: nothing is known of it any more. -/
theorem Sim.kill [Base] {m : Imm} {ρ : Rho} {h : Heap} {w : World} (hs : Sim m ρ (ent h) w) (id : Nat) : Sim m ρ (ent (h.set id .dead)) w := by
  have hd : ∀ j, ent (h.set id .dead) j = ent h j ∨ ent (h.set id .dead) j = .dead := by
    intro j
    by_cases hji : id = j
    · subst hji
      rcases Nat.lt_or_ge id h.length with h1 | h1
      · exact .inr (ent_set_self h1)
      · exact .inr (ent_ge (by simpa using h1))
    · exact .inl (ent_set_ne hji)
  have lv : ∀ j, live (ent (h.set id .dead) j) → live (ent h j) := by
    intro j hj
    rcases hd j with e | e
    · rwa [e] at hj
    · rw [e] at hj; simp [live] at hj
  refine ⟨hs.imm, fun j cs hj => ?_, fun j hj => ?_, fun j ps hj => ?_, hs.base, fun i j li lj hi hj => hs.inj i j li lj (lv i hi) (lv j hj)⟩
  · rcases hd j with e | e
    · exact hs.blk j cs (e ▸ hj)
    · rw [e] at hj; simp at hj
  · rcases hd j with e | e
    · exact hs.tok j (e ▸ hj)
    · rw [e] at hj; simp at hj
  · rcases hd j with e | e
    · exact hs.frz j ps (e ▸ hj)
    · rw [e] at hj; simp at hj

theorem Step.kill {m : Imm} {ρ : Rho} {h : Heap} {w : World} (id : Nat) : Step (ent h) (ent (h.set id .dead)) h.length h.length m ρ w m ρ w := by
  refine ⟨.refl m, fun _ _ => rfl, fun j _ hl => ?_, fun j l hj hl _ => ?_, fun _ _ _ => rfl, fun _ _ h => absurd rfl h, Nat.le_refl _, rfl, rfl, rfl⟩
  · by_cases hji : id = j
    · subst hji
      rcases Nat.lt_or_ge id h.length with h1 | h1
      · rw [ent_set_self h1] at hl; simp [live] at hl
      · rw [ent_ge (by simpa using h1)] at hl; simp [live] at hl
    · rwa [ent_set_ne hji] at hl
  · rw [ent_ge (by simpa using hj)] at hl; simp [live] at hl

/-- A block goes over to another entry: what an append does in place. -/
theorem Sim.move [Base] {m m' : Imm} {ρ : Rho} {h : Heap} {w w' : World} (hs : Sim m ρ (ent h) w) {id : Nat} (hlive : live (ent h id)) {loc : Loc} (hloc : ρ id = some loc) {c' : Array Value} {e : TypeId} {fz : Nat × Nat}
    (hw : w'.heap[loc.blk]? = some (.cells c' e fz)) (hsz : c'.size = loc.size) (hfz : free fz c'.size) (hrest : ∀ k, k ≠ loc.blk → w'.heap[k]? = w.heap[k]?) (hsize : w'.heap.size = w.heap.size) (ho : w'.os = w.os) (ht : w'.tape = w.tape) (hp : w'.output = w.output)
    (hm : m.le m') (hmo : ∀ b o, b ≠ loc.blk → m' b o = m b o) (himm : ∀ o v, m' loc.blk o = some v → w'.cell? ⟨loc.blk, o, none⟩ = some v) (en : Ent) (lo' : Nat) (hf : ρ h.length = none)
    (hen : (∃ cs t, en = .blk cs t ∧ (lo' = 0 ∧ ∀ x, t = some x → e = x) ∧ cs.length ≤ c'.size ∧ (∀ (i : Nat) (v : V), cs[i]? = some v → v.isCell = true ∧ R m' ρ v (c'.getD i undef)) ∧ ∀ o, m' loc.blk o = none) ∨ (en = .tok ∧ ∀ o, lo' ≤ o → m' loc.blk o = none)) :
    Sim m' (ρ.upd h.length ⟨loc.blk, loc.size, lo'⟩) (ent (h.set id .dead ++ [en])) w' ∧
      Step (ent h) (ent (h.set id .dead ++ [en])) h.length (h.set id Ent.dead ++ [en]).length m ρ w m' (ρ.upd h.length ⟨loc.blk, loc.size, lo'⟩) w' := by
  have hlt : id < h.length := ent_lt (by intro e; rw [e] at hlive; simp [live] at hlive)
  have hlen : (h.set id Ent.dead).length = h.length := by simp
  have rle : ρ.le (ρ.upd h.length ⟨loc.blk, loc.size, lo'⟩) := Rho.upd_le hf
  have hself : (ρ.upd h.length ⟨loc.blk, loc.size, lo'⟩) h.length = some ⟨loc.blk, loc.size, lo'⟩ := by simp [Rho.upd]
  have hne : ∀ j, j ≠ h.length → (ρ.upd h.length ⟨loc.blk, loc.size, lo'⟩) j = ρ j := by intro j hj; simp [Rho.upd, hj]
  have enlive : live en := by rcases hen with ⟨cs, _, rfl, _⟩ | ⟨rfl, _⟩ <;> simp [live]
  -- what stands at a place of the new heap
  have cls : ∀ j, (j < h.length ∧ j ≠ id ∧ ent (h.set id .dead ++ [en]) j = ent h j) ∨ (j = h.length ∧ ent (h.set id .dead ++ [en]) j = en) ∨ ent (h.set id .dead ++ [en]) j = .dead := by
    intro j
    rcases Nat.lt_trichotomy j h.length with h1 | h1 | h1
    · rw [ent_append_lt (by omega)]
      by_cases hj : id = j
      · subst hj; right; right; exact ent_set_self hlt
      · left; exact ⟨h1, Ne.symm hj, ent_set_ne hj⟩
    · right; left
      refine ⟨h1, ?_⟩
      rw [h1, ← hlen]
      exact ent_append_self
    · right; right; exact ent_ge (by simp; omega)
  have other : ∀ j l, j ≠ id → live (ent h j) → ρ j = some l → l.blk ≠ loc.blk := fun j l hj hl hr hb => hj (hs.inj j id l loc hl hlive hr hloc hb)
  have hbl := live_size hs hlive hloc
  have hown : Owned (ent h) ρ loc.blk := ⟨id, loc, hlive, hloc, rfl⟩
  refine ⟨⟨fun b o v hv => ?_, fun j cs hj => ?_, fun j hj => ?_, fun j ps hj => ?_, hs.base.trans hm, fun i j li lj hi hj hri hrj hb => ?_⟩, ⟨hm, fun j hj => ?_, fun j hj hl => ?_, fun j l hj hl hr => ?_, fun k hk hno => ?_, fun b o hd => ?_, by omega, ho, ht, hp⟩⟩
  · by_cases hb : b = loc.blk
    · subst hb; exact himm o v hv
    · rw [hmo b o hb] at hv
      rw [cell_of_block (hrest b hb)]; exact hs.imm b o v hv
  · rcases cls j with ⟨h1, h2, h3⟩ | ⟨h1, h3⟩ | h3
    · rw [h3] at hj
      obtain ⟨l, c2, e2, fz2, k1, k2, k3, k4, k5, k6, k7, k8⟩ := hs.blk j cs hj
      have hlb := other j l h2 (by rw [hj]; simp [live]) k1
      exact ⟨l, c2, e2, fz2, rle _ _ k1, k2, by rw [hrest _ hlb]; exact k3, k4, k5, k6, fun i v hv => ⟨(k7 i v hv).1, (k7 i v hv).2.mono hm rle⟩, fun o => by rw [hmo _ _ hlb, k8 o]⟩
    · rw [h3] at hj
      subst h1
      rcases hen with ⟨cs', _, rfl, q1, q2, q3, q4⟩ | ⟨rfl, _⟩
      · cases hj
        exact ⟨_, c', e, fz, hself, q1, hw, hsz, hfz, q2, fun i v hv => ⟨(q3 i v hv).1, (q3 i v hv).2.mono (.refl m') rle⟩, q4⟩
      · cases hj
    · rw [h3] at hj; cases hj
  · rcases cls j with ⟨h1, h2, h3⟩ | ⟨h1, h3⟩ | h3
    · rw [h3] at hj
      obtain ⟨l, c2, e2, fz2, k1, k3, k4, k5, k8⟩ := hs.tok j hj
      have hlb := other j l h2 (by rw [hj]; simp [live]) k1
      exact ⟨l, c2, e2, fz2, rle _ _ k1, by rw [hrest _ hlb]; exact k3, k4, k5, fun o ho => by rw [hmo _ _ hlb, k8 o ho]⟩
    · rw [h3] at hj
      subst h1
      rcases hen with ⟨cs', _, rfl, _⟩ | ⟨rfl, q⟩
      · cases hj
      · exact ⟨_, c', e, fz, hself, hw, hsz, hfz, q⟩
    · rw [h3] at hj; cases hj
  · rcases cls j with ⟨h1, h2, h3⟩ | ⟨h1, h3⟩ | h3
    · rw [h3] at hj
      obtain ⟨l, f, k1, k2⟩ := hs.frz j ps hj
      exact ⟨l, f, rle _ _ k1, fun i p hp => ⟨(k2 i p hp).1, hm _ _ _ (k2 i p hp).2.1, (k2 i p hp).2.2.mono hm⟩⟩
    · rw [h3] at hj
      rcases hen with ⟨cs', _, rfl, _⟩ | ⟨rfl, _⟩ <;> cases hj
    · rw [h3] at hj; cases hj
  · have kind : ∀ j l, live (ent (h.set id .dead ++ [en]) j) → (ρ.upd h.length ⟨loc.blk, loc.size, lo'⟩) j = some l → (j = h.length ∧ l.blk = loc.blk) ∨ (j < h.length ∧ j ≠ id ∧ live (ent h j) ∧ ρ j = some l ∧ l.blk ≠ loc.blk) := by
      intro j l hl hr
      rcases cls j with ⟨h1, h2, h3⟩ | ⟨h1, h3⟩ | h3
      · rw [h3] at hl
        rw [hne j (by omega)] at hr
        exact .inr ⟨h1, h2, hl, hr, other j l h2 hl hr⟩
      · subst h1; rw [hself] at hr; cases hr; exact .inl ⟨rfl, rfl⟩
      · rw [h3] at hl; simp [live] at hl
    rcases kind i li hi hri with ⟨a1, a2⟩ | ⟨a1, a2, a3, a4, a5⟩ <;> rcases kind j lj hj hrj with ⟨b1, b2⟩ | ⟨b1, b2, b3, b4, b5⟩
    · omega
    · exact absurd (hb ▸ a2) b5
    · exact absurd (hb.symm ▸ b2) a5
    · exact hs.inj i j li lj a3 b3 a4 b4 hb
  · refine hne j ?_
    rintro rfl
    exact hj ⟨Nat.le_refl _, by simp⟩
  · rcases cls j with ⟨h1, h2, h3⟩ | ⟨h1, h3⟩ | h3
    · rw [h3] at hl; exact hl
    · omega
    · rw [h3] at hl; simp [live] at hl
  · rcases cls j with ⟨h1, h2, h3⟩ | ⟨h1, h3⟩ | h3
    · omega
    · subst h1; rw [hself] at hr; cases hr; exact .inr hown
    · rw [h3] at hl; simp [live] at hl
  · exact hrest k fun e => hno (e ▸ hown)
  · by_cases hb : b = loc.blk
    · right; rw [hb]; exact hown
    · exact absurd (hmo b o hb) hd

/-- New memory of which a beginning never changes, and the rest is the function's own. -/
theorem Sim.allocTok [Base] {m : Imm} {ρ : Rho} {h : Heap} {w : World} (hs : Sim m ρ (ent h) w) (hf : ρ h.length = none) (c : Array Value) (e : TypeId) (k : Nat) (hk : k ≤ c.size) :
    Sim (m.fill w.heap.size 0 k (c.getD · undef)) (ρ.upd h.length ⟨w.heap.size, c.size, k⟩) (ent (h ++ [.tok])) { w with heap := w.heap.push (.cells c e (0, 0)) } ∧
    Step (ent h) (ent (h ++ [.tok])) h.length (h ++ [Ent.tok]).length m ρ w (m.fill w.heap.size 0 k (c.getD · undef)) (ρ.upd h.length ⟨w.heap.size, c.size, k⟩) { w with heap := w.heap.push (.cells c e (0, 0)) } := by
  have rle : ρ.le (ρ.upd h.length ⟨w.heap.size, c.size, k⟩) := Rho.upd_le hf
  have mle : m.le (m.fill w.heap.size 0 k (c.getD · undef)) := Imm.fill_le fun o _ _ => imm_lt hs (Nat.le_refl _)
  have hself : (ρ.upd h.length ⟨w.heap.size, c.size, k⟩) h.length = some ⟨w.heap.size, c.size, k⟩ := by simp [Rho.upd]
  have hg := hs.grow (w' := { w with heap := w.heap.push (.cells c e (0, 0)) }) mle rle (fun id loc hl hr => by
      have := live_size hs hl hr
      refine ⟨by simp only; rw [Array.getElem?_push_lt this]; exact (Array.getElem?_eq_getElem _).symm, fun o => ?_⟩
      simp only [Imm.fill]
      rw [if_neg (by omega)]) (fun b o v hv => by
      simp only [Imm.fill] at hv
      split at hv
      · rename_i h1
        obtain ⟨rfl, _, h2⟩ := h1
        cases hv
        have h3 : o < c.size := by omega
        simp [World.cell?, h3]
      · exact cell_push (hs.imm b o v hv))
  refine ⟨⟨hg.imm, fun id cs' hid => ?_, fun id hid => ?_, fun id ps hid => ?_, hg.base, fun i j li lj hi hj hri hrj hb => ?_⟩, ⟨mle, fun id hid => ?_, fun id hid hl => ?_, fun id loc hid hl hr => ?_, fun k hk _ => ?_, fun b o hne => ?_, by simp, rfl, rfl, rfl⟩⟩
  · rcases Nat.lt_trichotomy id h.length with h1 | h1 | h1
    · rw [ent_append_lt h1] at hid; exact hg.blk id cs' hid
    · subst h1; rw [ent_append_self] at hid; simp at hid
    · rw [ent_ge (by simp; omega)] at hid; simp at hid
  · rcases Nat.lt_trichotomy id h.length with h1 | h1 | h1
    · rw [ent_append_lt h1] at hid; exact hg.tok id hid
    · subst h1
      refine ⟨_, c, e, (0, 0), hself, by simp, rfl, .inl rfl, fun o ho => ?_⟩
      simp only [Imm.fill]
      rw [if_neg (by simp only at ho; omega)]
      exact imm_lt hs (Nat.le_refl _)
    · rw [ent_ge (by simp; omega)] at hid; simp at hid
  · rcases Nat.lt_trichotomy id h.length with h1 | h1 | h1
    · rw [ent_append_lt h1] at hid; exact hg.frz id ps hid
    · subst h1; rw [ent_append_self] at hid; simp at hid
    · rw [ent_ge (by simp; omega)] at hid; simp at hid
  · rcases live_append hi with ⟨a1, a2⟩ | ⟨a1, _⟩ <;> rcases live_append hj with ⟨b1, b2⟩ | ⟨b1, _⟩
    · exact hg.inj i j li lj a2 b2 hri hrj hb
    · subst b1
      rw [hself] at hrj; cases hrj
      have : ρ i = some li := by simpa [Rho.upd, Nat.ne_of_lt a1] using hri
      have := live_size hs a2 this
      simp at hb; omega
    · subst a1
      rw [hself] at hri; cases hri
      have : ρ j = some lj := by simpa [Rho.upd, Nat.ne_of_lt b1] using hrj
      have := live_size hs b2 this
      simp at hb; omega
    · omega
  · simp only [Rho.upd]
    rw [if_neg]
    rintro rfl
    exact hid ⟨Nat.le_refl _, by simp⟩
  · rw [ent_append_lt hid] at hl; exact hl
  · rcases live_append hl with ⟨a1, _⟩ | ⟨a1, _⟩
    · omega
    · subst a1; rw [hself] at hr; cases hr; exact .inl (Nat.le_refl _)
  · simp only; rw [Array.getElem?_push_lt hk]; exact (Array.getElem?_eq_getElem _).symm
  · simp only [Imm.fill] at hne
    split at hne
    · rename_i h1; exact .inl (by omega)
    · exact absurd rfl hne

end Ab
