/- Cells of values; loads, stores, parts. -/
import Derived.Test.YtcggaaheaahinaaDoorAbEq
namespace Ab
open Go


variable {P : Program} {m : Imm} {ρ : Rho}

theorem pures_ok : ∀ {cs : List V} {ps : List PV}, pures cs = some ps → cs = ps.map .pv
  | [], ps, h => by simp [pures] at h; subst h; rfl
  | .pv p :: cs, ps, h => by
    simp only [pures] at h
    split at h
    · rename_i qs e
      cases h
      rw [pures_ok e]; rfl
    · cases h
  | .ptr _ _ :: _, _, h => by simp [pures] at h
  | .sln _ _ _ _ _ :: _, _, h => by simp [pures] at h
  | .slt _ _ :: _, _, h => by simp [pures] at h
  | .slx _ :: _, _, h => by simp [pures] at h
  | .nils :: _, _, h => by simp [pures] at h
  | .agg _ :: _, _, h => by simp [pures] at h
  | .fn _ _ :: _, _, h => by simp [pures] at h
  | .tup _ :: _, _, h => by simp [pures] at h

theorem R.pure {p : PV} {cv : Value} (h : R m ρ (.pv p) cv) : RP m p cv := by cases h; assumption

theorem mkAgg_ok {cs : List V} {vs : Array Value} (hl : vs.size = cs.length) (hc : ∀ c ∈ cs, c.isCell = true) (hr : ∀ (j : Nat) (c : V), cs[j]? = some c → R m ρ c (vs.getD j undef)) : R m ρ (mkAgg cs) (.agg vs) := by
  unfold mkAgg
  split
  · rename_i ps e
    have := pures_ok e
    subst this
    refine .pv _ _ (.agg ps vs (fun c hc' => hc (.pv c) (List.mem_map_of_mem hc')) (by simpa using hl) fun j c hj => ?_)
    exact (hr j (.pv c) (by simp [hj])).pure
  · exact .agg cs vs hc hl hr

theorem mkFn_ok {f : FuncId} {cs : List V} {vs : Array Value} (hl : vs.size = cs.length) (hr : ∀ (j : Nat) (c : V), cs[j]? = some c → R m ρ c (vs.getD j undef)) : R m ρ (mkFn f cs) (.func (.func f) #[] vs) := by
  unfold mkFn
  split
  · rename_i ps e
    have := pures_ok e
    subst this
    exact .pv _ _ (.fn f ps vs (by simpa using hl) fun j c hj => (hr j (.pv c) (by simp [hj])).pure)
  · exact .fn f cs vs hl hr

/-- The cells of a value, and of what it is in memory. -/
theorem cells_ok {x : V} {cx : Value} (h : R m ρ x cx) : x.cells.length = cx.cells.size ∧ ∀ (j : Nat) (c : V), x.cells[j]? = some c → R m ρ c (cx.cells.getD j undef) := by
  have one : ∀ {y : V} {cy : Value}, y.cells = [y] → cy.cells = #[cy] → R m ρ y cy → y.cells.length = cy.cells.size ∧ ∀ (j : Nat) (c : V), y.cells[j]? = some c → R m ρ c (cy.cells.getD j undef) := by
    intro y cy e1 e2 hy
    rw [e1, e2]
    refine ⟨rfl, fun j c hj => ?_⟩
    cases j with
    | zero => simp at hj; subst hj; simpa using hy
    | succ j => simp at hj
  cases h with
  | pv p v hp =>
    by_cases hc : p.isCell = true
    · refine one ?_ (hp.oneCell hc).1 (.pv p cx hp)
      cases p <;> simp_all [V.cells, PV.cells, PV.isCell]
    · cases p <;> simp [PV.isCell] at hc
      cases hp with
      | agg cs vs hcell hl hr =>
        refine ⟨by simp [V.cells, PV.cells, Value.cells, hl], fun j c hj => ?_⟩
        simp only [V.cells, PV.cells, List.getElem?_map, Option.map_eq_some_iff] at hj
        obtain ⟨q, hq, rfl⟩ := hj
        exact .pv _ _ (hr j q hq)
  | agg cs vs hcell hl hr => exact ⟨by simp [V.cells, Value.cells, hl], fun j c hj => hr j c hj⟩
  | ptr id off loc h => exact one rfl rfl (.ptr id off loc h)
  | sln id off len sz ag loc cap h1 h2 h3 => exact one rfl rfl (.sln id off len sz ag loc cap h1 h2 h3)
  | slt es tok b o cap sz loc h1 h2 h3 h4 h5 h6 h7 h8 => exact one rfl rfl (.slt es tok b o cap sz loc h1 h2 h3 h4 h5 h6 h7 h8)
  | slx es b o h => exact one rfl rfl (.slx es b o h)
  | nils => exact one rfl rfl .nils
  | fn f caps vs h1 h2 => exact one rfl rfl (.fn f caps vs h1 h2)
  | tup us vs h1 h2 => exact one rfl rfl (.tup us vs h1 h2)

theorem one_of {x : V} {v : Value} (r : R m ρ x v) (h : x.isCell = true) : v.oneCell' = true := by
  obtain ⟨_, h1, h2⟩ := r.oneCell h
  cases v <;> first | rfl | exact absurd rfl (h1 _) | exact absurd rfl (h2 _)

/-- A whole value out of its cells. -/
theorem mkVal_ok {ag : Bool} {cs : List V} {v : V} {f : Nat → Value} {n : Nat} (h : mkVal ag cs = some v) (hl : cs.length = n) (_hn : ag = false → n = 1) (hc : ∀ c ∈ cs, c.isCell = true) (hr : ∀ (j : Nat) (c : V), cs[j]? = some c → R m ρ c (f j)) :
    R m ρ v (if ag then .agg ((List.range n).map f).toArray else f 0) := by
  unfold mkVal at h
  split at h
  · rename_i ha
    cases h
    rw [if_pos ha]
    refine mkAgg_ok (by simp [hl]) hc fun j c hj => ?_
    have hlt : j < n := by have := (List.getElem?_eq_some_iff.1 hj).1; omega
    have := hr j c hj
    simpa [Array.getD_eq_getD_getElem?, hlt] using this
  · rename_i ha
    rw [if_neg ha]
    split at h
    · cases h; exact hr 0 _ rfl
    · cases h

/-- LOADS: where the cells lie, and what they make. -/
theorem load_ok [Base] {h : Heap} {w : World} {ag : Bool} {size : Nat} {av v : V} {ca : Value} (hs : Sim m ρ (ent h) w) (hn : ag = false → size = 1) (hv : loadA h ag size av = some v) (ha : R m ρ av ca) :
    ∃ b o, ∃ f : Nat → Value, ca = .pointer (some ⟨b, o, none⟩) ∧ (∀ j, j < size → w.cell? ⟨b, o + j, none⟩ = some (f j)) ∧ R m ρ v (if ag then .agg ((List.range size).map f).toArray else f 0) := by
  have pureCase : ∀ (ps : List PV) (off b o : Nat) (f : Nat → Value) (qs : List PV) , cut ps off size = some qs → mkVal ag (qs.map .pv) = some v → (∀ (i : Nat) (p : PV), ps[i]? = some p → p.isCell = true ∧ m b (o + i) = some (f i) ∧ RP m p (f i)) →
      (∀ j, j < size → w.cell? ⟨b, o + off + j, none⟩ = some (f (off + j))) ∧ R m ρ v (if ag then .agg ((List.range size).map fun j => f (off + j)).toArray else f (off + 0)) := by
    intro ps off b o f qs hcut hmk hp
    obtain ⟨c1, c2, c3⟩ := cut_some hcut
    refine ⟨fun j hj => ?_, ?_⟩
    · have hlt : off + j < ps.length := by omega
      have := (hp (off + j) _ (List.getElem?_eq_getElem hlt)).2.1
      rw [show o + off + j = o + (off + j) by omega]
      exact hs.imm _ _ _ this
    · refine mkVal_ok (f := fun j => f (off + j)) hmk (by simpa using c2) hn (fun c hc => ?_) (fun j c hj => ?_)
      · obtain ⟨q, hq, rfl⟩ := List.mem_map.1 hc
        obtain ⟨i, hi⟩ := List.getElem?_of_mem (cut_mem hcut hq)
        exact (hp i q hi).1
      · simp only [List.getElem?_map, Option.map_eq_some_iff] at hj
        obtain ⟨q, hq, rfl⟩ := hj
        have hlt : j < size := by have := (List.getElem?_eq_some_iff.1 hq).1; omega
        rw [c3 j hlt] at hq
        exact .pv _ _ (hp _ q hq).2.2
  cases ha with
  | ptr id off loc hloc =>
    simp only [loadA] at hv
    split at hv
    · rename_i cs _ hid
      split at hv
      · rename_i qs hcut
        obtain ⟨l, c, e, fz, h1, _, h2, h3, h4, h5, h6, h7⟩ := hs.blk id cs hid
        rw [hloc] at h1
        cases h1
        obtain ⟨c1, c2, c3⟩ := cut_some hcut
        refine ⟨loc.blk, off, fun j => c.getD (off + j) undef, rfl, fun j hj => ?_, mkVal_ok (f := fun j => c.getD (off + j) undef) hv c2 hn (fun x hx => ?_) (fun j x hj => ?_)⟩
        · have : off + j < c.size := by omega
          simp [World.cell?, h2, this]
        · obtain ⟨i, hi⟩ := List.getElem?_of_mem (cut_mem hcut hx)
          exact (h6 i x hi).1
        · have hlt : j < size := by have := (List.getElem?_eq_some_iff.1 hj).1; omega
          rw [c3 j hlt] at hj
          exact (h6 _ x hj).2
      · simp at hv
    · rename_i ps hid
      split at hv
      · rename_i qs hcut
        obtain ⟨l, f, h1, h2⟩ := hs.frz id ps hid
        rw [hloc] at h1
        cases h1
        obtain ⟨k1, k2⟩ := pureCase ps off loc.blk 0 f qs hcut hv (fun i p hp => by rw [Nat.zero_add]; exact h2 i p hp)
        exact ⟨loc.blk, off, fun j => f (off + j), rfl, fun j hj => by have := k1 j hj; rwa [Nat.zero_add] at this, k2⟩
      · simp at hv
    · simp at hv
  | pv p v' hp =>
    cases hp with
    | ip cs b o off f hcell hm hr =>
      simp only [loadA] at hv
      split at hv
      · rename_i qs hcut
        obtain ⟨k1, k2⟩ := pureCase cs off b o f qs hcut hv (fun i p hp => ⟨hcell p (List.mem_of_getElem? hp), hm i p hp, hr i p hp⟩)
        exact ⟨b, o + off, fun j => f (off + j), rfl, k1, k2⟩
      · simp at hv
    | _ => simp [loadA] at hv
  | _ => simp [loadA] at hv

theorem splice_get {α : Type} {l new : List α} {off : Nat} (h : off + new.length ≤ l.length) (j : Nat) :
    (splice l off new)[j]? = if off ≤ j ∧ j < off + new.length then new[j - off]? else l[j]? := by
  unfold splice
  have h1 : (l.take off).length = off := by simp; omega
  by_cases ha : j < off
  · rw [if_neg (by omega), List.append_assoc, List.getElem?_append_left (by omega), List.getElem?_take_of_lt ha]
  · by_cases hb : j < off + new.length
    · rw [if_pos (by omega), List.append_assoc, List.getElem?_append_right (by omega), h1, List.getElem?_append_left (by omega)]
    · rw [if_neg (by omega), List.getElem?_append_right (by simp; omega), List.getElem?_drop]
      congr 1
      simp
      omega

theorem splice_length {α : Type} {l new : List α} {off : Nat} (h : off + new.length ≤ l.length) : (splice l off new).length = l.length := by
  unfold splice
  simp
  omega

/-- STORES. -/
theorem store_ok [Base] {h h' : Heap} {w : World} {size : Nat} {av x : V} {ca cx : Value} {t : TypeId} {i : TypeInfo} (hi : P.info? t = some i) (hsz : i.size = size) (hs : Sim m ρ (ent h) w) (hv : storeA h size av x = some h') (ha : R m ρ av ca) (hx : R m ρ x cx) :
    ∃ b o w', ca = .pointer (some ⟨b, o, none⟩) ∧ (storeVar t ⟨b, o, none⟩ cx).run P w = .ok () w' ∧ Sim m ρ (ent h') w' ∧ Step (ent h) (ent h') h.length h'.length m ρ w m ρ w' ∧ h'.length = h.length := by
  cases ha with
  | ptr id off loc hloc =>
    simp only [storeA] at hv
    split at hv
    · rename_i cs _ hid
      split at hv
      · rename_i hc
        obtain ⟨c1, c2, c3⟩ := hc
        cases hv
        obtain ⟨l, c, e, fz, h1, hlo, h2, h3, h4, h5, h6, h7⟩ := hs.blk id cs hid
        rw [hloc] at h1
        cases h1
        obtain ⟨k1, k2⟩ := cells_ok hx
        have hall : ∀ c ∈ x.cells, c.isCell = true := by simpa using c3
        have hsize : cx.cells.size = i.size := by omega
        have hone : ∀ y ∈ cx.cells.toList, y.oneCell' = true := by
          intro y hy
          obtain ⟨j, hj⟩ := List.getElem?_of_mem hy
          have hlt : j < x.cells.length := by
            have := (List.getElem?_eq_some_iff.1 hj).1
            simp at this; omega
          have := k2 j _ (List.getElem?_eq_getElem hlt)
          have he : cx.cells.getD j undef = y := by simp at hj; simp [Array.getD_eq_getD_getElem?, hj]
          rw [he] at this
          exact one_of this (hall _ (List.getElem_mem _))
        obtain ⟨c', r1, r2, r3⟩ := run_storeVar hi loc.blk off e fz cx c w hsize h2 h4 (by omega) hone
        refine ⟨loc.blk, off, _, rfl, r1, ?_⟩
        have hb := lt_of_heap h2
        have hw := hs.write (id := id) (cs := cs) hid (splice cs off x.cells) { w with heap := w.heap.setIfInBounds loc.blk (.cells c' e fz) } c' loc e fz hlo.2 hloc (heap_set hb) (by omega) (by rw [r2]; exact h4)
          (by rw [splice_length (by omega)]; omega)
          (fun j v hj => by
            rw [splice_get (by omega)] at hj
            rw [r3 j]
            rw [c1] at hj
            rw [hsize, hsz]
            split at hj
            · rename_i hr
              rw [if_pos hr]
              exact ⟨hall v (List.mem_of_getElem? hj), k2 _ v hj⟩
            · rename_i hr
              rw [if_neg hr]
              exact h6 j v hj)
          (fun k hk => by simp [Ne.symm hk]) (by simp) rfl rfl rfl
        exact ⟨hw.1, hw.2, by simp⟩
      · simp at hv
    · simp at hv
  | _ => simp [storeA] at hv

/-- Parts of values. -/
theorem part_ok (w : World) {t : TypeId} {d : TypeDesc} {i : TypeInfo} {off size : Nat} {x v : V} {cx : Value} (hd : P.underlying t = some d) (hi : P.info? t = some i) (hsz : size = if aggD d then i.size else 1) (hv : partA off size (aggD d) x = some v) (hx : R m ρ x cx) :
    ∃ vs cv, cx = .agg vs ∧ (part t vs off).run P w = .ok cv w ∧ R m ρ v cv := by
  have key : ∀ (cs : List V) (vs : Array Value) (qs : List V), vs.size = cs.length → (∀ c ∈ cs, c.isCell = true) → (∀ (j : Nat) (c : V), cs[j]? = some c → R m ρ c (vs.getD j undef)) → cut cs off size = some qs → mkVal (aggD d) qs = some v →
      ∃ cv, (part t vs off).run P w = .ok cv w ∧ R m ρ v cv := by
    intro cs vs qs hl hc hr hcut hmk
    obtain ⟨c1, c2, c3⟩ := cut_some hcut
    have hR := mkVal_ok (m := m) (ρ := ρ) (f := fun j => vs.getD (off + j) undef) (n := size) hmk c2 (fun ha => by rw [hsz, ha]; rfl) (fun c hc' => hc c (cut_mem hcut hc')) (fun j c hj => by
      have hlt : j < size := by have := (List.getElem?_eq_some_iff.1 hj).1; omega
      rw [c3 j hlt] at hj
      exact hr _ c hj)
    refine ⟨_, ?_, hR⟩
    cases ha : aggD d with
    | true =>
      rw [ha, if_pos rfl] at hsz
      subst hsz
      simp only [part, Sem.run_bind, run_agg hd, ha, Result.andThen_ok, if_true, run_size hi, Sem.run_pure]
      congr 2
      apply Array.ext
      · simp; omega
      · intro j h1 h2
        simp at h1 h2
        simp [Array.getD_eq_getD_getElem?, show off + j < vs.size by omega]
    | false =>
      rw [ha, if_neg (by simp)] at hsz
      subst hsz
      have hlt : off < vs.size := by omega
      simp [part, run_agg hd, ha, hlt]
  cases hx with
  | pv p v' hp =>
    cases hp with
    | agg cs vs hcell hl hr =>
      simp only [partA] at hv
      split at hv
      · rename_i qs hcut
        obtain ⟨cv, h1, h2⟩ := key (cs.map .pv) vs (qs.map .pv) (by simp [hl]) (fun c hc => by obtain ⟨q, hq, rfl⟩ := List.mem_map.1 hc; exact hcell q hq) (fun j c hj => by
          simp only [List.getElem?_map, Option.map_eq_some_iff] at hj
          obtain ⟨q, hq, rfl⟩ := hj
          exact .pv _ _ (hr j q hq)) (by
            unfold cut at hcut ⊢
            split at hcut
            · rename_i hle
              cases hcut
              rw [if_pos (by simpa using hle)]
              simp [List.map_take, List.map_drop]
            · simp at hcut) hv
        exact ⟨vs, cv, rfl, h1, h2⟩
      · simp at hv
    | _ => simp [partA] at hv
  | agg cs vs hcell hl hr =>
    simp only [partA] at hv
    split at hv
    · rename_i qs hcut
      obtain ⟨cv, h1, h2⟩ := key cs vs qs hl hcell hr hcut hv
      exact ⟨vs, cv, rfl, h1, h2⟩
    · simp at hv
  | _ => simp [partA] at hv

end Ab
