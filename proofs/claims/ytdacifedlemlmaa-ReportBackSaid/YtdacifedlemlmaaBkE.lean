/- BkE: steps, walks, laws: see the remarks within. -/
import Derived.Test.YtdacifedlemlmaaBkD
set_option linter.unusedSimpArgs false
set_option linter.unusedVariables false
-- report's reader: value: walked.
namespace Rp
open Go Ab Go.Proofs.Ytdacifedlemlmaa.Mach
variable {E : Env}

theorem or8_eq {n x : Int} (hn : 0 ≤ n ∧ n < 36028797018963968) (h : 0 ≤ x ∧ x < 256) : or8 n x = n * 256 + x := by
  obtain ⟨a, rfl⟩ : ∃ a : Nat, n = a := ⟨n.toNat, by omega⟩
  obtain ⟨c, rfl⟩ : ∃ c : Nat, x = c := ⟨x.toNat, by omega⟩
  have hc : c < 2 ^ 8 := by omega
  unfold or8
  have e0 : IntKind.i64.wrap ((a : Int) * 256) = (a : Int) * 256 := wrap_i64 (by omega)
  rw [e0]
  have e1 : ((a : Int) * 256) = ((a * 256 : Nat) : Int) := by simp
  rw [e1]
  have t1 : (BitVec.ofInt 64 ((a * 256 : Nat) : Int)).toNat = a * 256 := by rw [BitVec.toNat_ofInt]; omega
  have t2 : (BitVec.ofInt 64 (c : Int)).toNat = c := by rw [BitVec.toNat_ofInt]; omega
  have t3 : (BitVec.ofInt 64 ((a * 256 : Nat) : Int) ||| BitVec.ofInt 64 (c : Int)).toNat = a * 256 ||| c := by rw [BitVec.toNat_or, t1, t2]
  rw [t3]
  have e2 : a * 256 ||| c = a * 256 + c := by
    have := Nat.two_pow_add_eq_or_of_lt hc a
    rw [Nat.mul_comm]
    exact this.symm
  rw [e2, wrap_i64 (by omega)]
  simp
theorem take2_rng {bs : List Int} {bad : Bool} (h : Byt bs) : 0 ≤ (takeS 2 bs bad).1 ∧ (takeS 2 bs bad).1 < 65536 := by
  unfold takeS
  split
  · simp
  · rcases bs with _ | ⟨x, _ | ⟨y, l⟩⟩
    · simp_all
    · simp_all
    · have hx := h x (by simp)
      have hy := h y (by simp)
      have : numI ([x, y]) = x * 256 + y := by simp [numI, or8_zero hx, or8_eq (n := x) (by omega) hy]
      simp [this]
      omega

theorem _root_.Ab.X.midA {c rest : ACode} {st : Ab.St} {Q : AExit → Ab.St → Prop} (M : Ab.St → Prop) (h : X E (app c .skip) st (thenQ M fun _ _ => False)) (k : ∀ st', M st' → X E rest st' Q) : X E (app c rest) st Q := by
  have h2 : X E (.seq c .skip) st (thenQ M fun _ _ => False) := by
    simp only [x_eq] at h ⊢
    exact w_app c |>.1 h
  have h3 := X.mid M h2 k
  simp only [x_eq] at h3 ⊢
  exact w_app c |>.2 h3
theorem app_seq {a b c : ACode} : app (.seq a b) c = app a (app b c) := rfl
/-- Kids are read. -/
def runV (f : Int → List Int → Bool → Va × Int × List Int × Bool) : Nat → List Va → Int → List Int → Bool → List Va × Int × List Int × Bool
  | 0, acc, left, bs, bad => (acc, left, bs, bad)
  | m + 1, acc, left, bs, bad => if bad = true then (acc, left, bs, bad) else runV f m (acc ++ [(f left bs bad).1]) (f left bs bad).2.1 (f left bs bad).2.2.1 (f left bs bad).2.2.2
/-- How many kids there are to be read, and what stands ahead of them: kind, byte, number. -/
def headT (bs : List Int) (bad : Bool) : Int × Int × Int × List Int × Bool :=
  let r := takeS 1 bs bad
  if r.1 = 2 then
    let c := takeS 1 r.2.1 r.2.2
    (r.1, c.1, 0, c.2.1, c.2.2)
  else if r.1 = 6 then
    let c := takeS 2 r.2.1 r.2.2
    (r.1, 0, c.1, c.2.1, c.2.2)
  else (r.1, 0, manyS r.1 0, r.2.1, r.2.2)
/-- A value is read. -/
def valT : Nat → Int → List Int → Bool → Va × Int × List Int × Bool
  | 0, left, bs, _ => (.mk 0 0 [], left - 1, bs, true)
  | d + 1, left, bs, bad =>
    let p := headT bs (bad || decide (left - 1 < 0))
    let q := runV (valT d) p.2.2.1.toNat [] (left - 1) p.2.2.2.1 p.2.2.2.2
    (.mk p.1 p.2.1 q.1, q.2)
theorem headT_byt {bs : List Int} {bad : Bool} (h : Byt bs) : Byt (headT bs bad).2.2.2.1 := by
  unfold headT
  dsimp only
  split
  · exact take_byt (take_byt h)
  · split
    · exact take_byt (take_byt h)
    · exact take_byt h
theorem headT_b {bs : List Int} {bad : Bool} (h : Byt bs) : 0 ≤ (headT bs bad).2.1 ∧ (headT bs bad).2.1 < 256 := by
  unfold headT
  dsimp only
  split
  · exact take1_rng (take_byt h)
  · split <;> simp
theorem headT_n {bs : List Int} {bad : Bool} (h : Byt bs) : -1 ≤ (headT bs bad).2.2.1 ∧ (headT bs bad).2.2.1 < 65536 := by
  unfold headT
  dsimp only
  split
  · simp
  · split
    · have := take2_rng (bad := (takeS 1 bs bad).2.2) (take_byt (k := 1) (bad := bad) h)
      dsimp only
      omega
    · dsimp only
      unfold manyS
      repeat' split
      all_goals omega
theorem takeS_bad {k : Nat} {bs : List Int} : takeS k bs true = (0, bs, true) := by simp [takeS]
theorem headT_bad {bs : List Int} : headT bs true = (0, 0, -1, bs, true) := by simp [headT, takeS_bad, manyS]
theorem valT_bad {d : Nat} {left : Int} {bs : List Int} : valT d left bs true = (.mk 0 0 [], left - 1, bs, true) := by
  cases d with
  | zero => rfl
  | succ d => simp [valT, headT_bad, runV]
theorem run_left {f : Int → List Int → Bool → Va × Int × List Int × Bool} (hf : ∀ left bs, 0 ≤ left → Byt bs → (f left bs false).2.1 ≤ left ∧ ((f left bs false).2.2.2 = false → 0 ≤ (f left bs false).2.1) ∧ Byt (f left bs false).2.2.1) :
    ∀ (m : Nat) (acc : List Va) (left : Int) (bs : List Int) (bad : Bool), Byt bs → (bad = false → 0 ≤ left) → (runV f m acc left bs bad).2.1 ≤ left ∧ ((runV f m acc left bs bad).2.2.2 = false → 0 ≤ (runV f m acc left bs bad).2.1) ∧ Byt (runV f m acc left bs bad).2.2.1
  | 0, acc, left, bs, bad, hb, hl => ⟨Int.le_refl _, hl, hb⟩
  | m + 1, acc, left, bs, bad, hb, hl => by
    unfold runV
    cases bad with
    | true => exact ⟨Int.le_refl _, fun h => (by cases h), hb⟩
    | false =>
      obtain ⟨a1, a2, a3⟩ := hf left bs (hl rfl) hb
      obtain ⟨b1, b2, b3⟩ := run_left hf m (acc ++ [(f left bs false).1]) _ _ (f left bs false).2.2.2 a3 a2
      simp only [Bool.false_eq_true, if_false]
      exact ⟨Int.le_trans b1 a1, b2, b3⟩
theorem val_left : ∀ (d : Nat) (left : Int) (bs : List Int), 0 ≤ left → Byt bs → (valT d left bs false).2.1 ≤ left ∧ ((valT d left bs false).2.2.2 = false → 0 ≤ (valT d left bs false).2.1) ∧ Byt (valT d left bs false).2.2.1
  | 0, left, bs, hl, hb => ⟨by simp only [valT]; omega, fun h => (by simp [valT] at h), hb⟩
  | d + 1, left, bs, hl, hb => by
    simp only [valT]
    by_cases h1 : left - 1 < 0
    · have : (false || decide (left - 1 < 0)) = true := by simp [h1]
      rw [this, headT_bad]
      simp [runV, hb]
      omega
    · have : (false || decide (left - 1 < 0)) = false := by simp [h1]
      rw [this]
      obtain ⟨b1, b2, b3⟩ := run_left (fun left bs => val_left d left bs) (headT bs false).2.2.1.toNat [] (left - 1) (headT bs false).2.2.2.1 (headT bs false).2.2.2.2 (headT_byt hb) (fun _ => by omega)
      exact ⟨by omega, b2, b3⟩

/-- What stays while a value is read. -/
structure VS (h : Heap) (ri li : Nat) (left : Int) (bs : List Int) (bad : Bool) (hh : Heap) : Prop where
  rd : Rd hh ri bs bad
  box : ∃ t, ent hh li = .blk [.pv (.int .i64 left)] t
  but : But h [ri, li] hh
  lo : ri < h.length ∧ li < h.length ∧ ri ≠ li
section
variable {h hh hh' : Heap} {ri li : Nat} {left : Int} {bs bs' : List Int} {bad bad' : Bool} {l : Heap}
theorem VS.more (s : VS h ri li left bs bad hh) : VS h ri li left bs bad (hh ++ l) := by
  obtain ⟨t, hb⟩ := s.box
  exact ⟨s.rd.more, ⟨t, ent_app hb (by simp)⟩, s.but.more, s.lo⟩
/-- A number is taken. -/
theorem VS.take (s : VS h ri li left bs bad hh) (r : Rd hh' ri bs' bad') (o : But hh [ri] hh') : VS h ri li left bs' bad' hh' := by
  obtain ⟨t, hb⟩ := s.box
  have hne := s.lo.2.2
  exact ⟨r, ⟨t, by rw [o.old li (Rp.ent_lt hb) (by simp; omega)]; exact hb⟩, s.but.trans (o.wide (by simp)), s.lo⟩
/-- What lies above is turned. -/
theorem VS.up {k : Nat} {B : Ent} (s : VS h ri li left bs bad hh) (hk : h.length ≤ k) : VS h ri li left bs bad (hh.set k B) := by
  obtain ⟨t, hb⟩ := s.box
  obtain ⟨t2, hr⟩ := s.rd
  have hlo := s.lo
  refine ⟨⟨t2, ?_⟩, ⟨t, ?_⟩, ⟨by simp; exact s.but.len, fun i hi hn => ?_⟩, hlo⟩
  · rw [ent_set_ne (by omega)]; exact hr
  · rw [ent_set_ne (by omega)]; exact hb
  · rw [ent_set_ne (by omega)]; exact s.but.old i hi hn
/-- The count goes down. -/
theorem VS.count {left' : Int} {t : Option TypeId} (s : VS h ri li left bs bad hh) : VS h ri li left' bs bad (hh.set li (.blk [.pv (.int .i64 left')] t)) := by
  obtain ⟨t1, hb⟩ := s.box
  obtain ⟨t2, hr⟩ := s.rd
  have hlo := s.lo
  have hlt := Rp.ent_lt hb
  refine ⟨⟨t2, ?_⟩, ⟨t, ?_⟩, ⟨by simp; exact s.but.len, fun i hi hn => ?_⟩, hlo⟩
  · rw [ent_set_ne (by omega)]; exact hr
  · simp [ent, hlt]
  · rw [ent_set_ne (by simp at hn; omega)]; exact s.but.old i hi hn
/-- It is bad. -/
theorem VS.turn {t : Option TypeId} (s : VS h ri li left bs bad hh) : VS h ri li left bs true (hh.set ri (.blk [.pv (.sl (encB bs)), .pv (.bool true)] t)) := by
  obtain ⟨t1, hb⟩ := s.box
  obtain ⟨t2, hr⟩ := s.rd
  have hlo := s.lo
  have hlt := Rp.ent_lt hr
  refine ⟨⟨t, ?_⟩, ⟨t1, ?_⟩, ⟨by simp; exact s.but.len, fun i hi hn => ?_⟩, hlo⟩
  · simp [ent, hlt]
  · rw [ent_set_ne (by omega)]; exact hb
  · rw [ent_set_ne (by simp at hn; omega)]; exact s.but.old i hi hn
end

structure HasW (E : Env) : Prop where
  u : HasU E
  many : Has E 77 c77
  value : HasR E 57 c57

theorem Rw.cell {b : Nat} {h : Heap} {v : V} {es : List PV} (r : Rw b h v es) : v.isCell = true := by
  rcases r with ⟨rfl, rfl⟩ | rfl | ⟨_, tok, rfl, _⟩ <;> rfl
theorem kill_mask {b : Nat} {h l : Heap} {v : V} {es : List PV} (r : Rw b h v es) : merge v.ids h (kill (mask v.ids h) v ++ l) = kill h v ++ l := by
  rcases r with ⟨rfl, rfl⟩ | rfl | ⟨_, tok, rfl, _⟩
  · exact merge_mask_app
  · exact merge_mask_app
  · exact merge_mask_set_app (by simp [V.ids])
theorem Rw.masked {b : Nat} {h : Heap} {v : V} {es : List PV} (r : Rw b h v es) : Rw b (mask v.ids h) v es := by
  rcases r with r | r | ⟨h1, tok, rfl, h3, h4⟩
  · exact .inl r
  · exact .inr (.inl r)
  · exact .inr (.inr ⟨h1, tok, rfl, by rw [ent_mask_in (by simp [V.ids])]; exact h3, h4⟩)
theorem Rw.ids {b : Nat} {h : Heap} {v : V} {es : List PV} (r : Rw b h v es) : ∀ x ∈ v.ids, ent h x = .tok ∧ b ≤ x := by
  rcases r with ⟨_, rfl⟩ | rfl | ⟨_, tok, rfl, h3, h4⟩
  · intro x hx; cases hx
  · intro x hx; cases hx
  · intro x hx
    simp only [V.ids, List.mem_singleton] at hx
    subst hx
    exact ⟨h3, h4⟩
theorem strideV (l : List Va) : strideOk 3 (l.map encV) = true := strideOk_of fun e he => by
  obtain ⟨x, _, rfl⟩ := List.mem_map.1 he
  rw [eV]
  rfl
/-- One more value, in a region of any order. -/
theorem Rw.append_masked {b : Nat} {h : Heap} {v : V} {l : List Va} (r : Rw b h v (l.map encV)) (x : Va) (hl : l.length ≤ 100000) :
    opA E (limP E) (limR E) [] (mask v.ids h) (.append true false 3 40 24 (.val v) (.val (.slx [.agg [.int .i64 x.k, .int .u8 x.b, .sl (x.l.map encV)]]))) = some (.slt ((l ++ [x]).map encV) h.length, kill (mask v.ids h) v ++ [.tok]) := by
  have h1 := r.masked.app (ag := true) (sz := 3) (bytes := 40) (te := 24) (n := 1) (new := [.pv (.int .i64 x.k), .pv (.int .u8 x.b), .pv (.sl (x.l.map encV))]) (ps := [.int .i64 x.k, .int .u8 x.b, .sl (x.l.map encV)]) (by omega) (strideV l) rfl (by rw [List.length_map]; omega) rfl rfl
  have h2 : (l ++ [x]).map encV = l.map encV ++ (chunks 3 1 [.int .i64 x.k, .int .u8 x.b, .sl (x.l.map encV)]).map (mkPV true) := by simp [chunks, mkPV, eV]
  rw [h2, ← length_mask (F := v.ids) (h := h)]
  have h3 : srcCells (mask v.ids h) 3 (.slx [.agg [.int .i64 x.k, .int .u8 x.b, .sl (x.l.map encV)]]) = some [.pv (.int .i64 x.k), .pv (.int .u8 x.b), .pv (.sl (x.l.map encV))] := by simp [srcCells, strideOk, PV.cells]
  simp only [opA, St.eval, Ab.lenA, h3, List.length_cons, List.length_nil, Nat.zero_add]
  exact h1
/-- What is read: a kind, a byte, kids as they grow. -/
def VOut (b : Nat) (hh : Heap) (r : V) (v : Va) : Prop := ∃ L, V.cells r = [.pv (.int .i64 v.k), .pv (.int .u8 v.b), L] ∧ Rw b hh L (v.l.map encV)
/-- A value is read within a depth. -/
def ReadOk (E : Env) (d : Int) (f : Int → List Int → Bool → Va × Int × List Int × Bool) : Prop := ∀ (h : Heap) (ri li : Nat) (left : Int) (bs : List Int) (bad : Bool), Rd h ri bs bad → (∃ t, ent h li = .blk [.pv (.int .i64 left)] t) → Byt bs → 0 ≤ left → left ≤ 4000 →
  ∃ r h', limR E 57 [.ptr ri 0, .pv (.int .i64 d), .ptr li 0] h = some (r, h') ∧ (VOut h.length h' r (f left bs bad).1 ∧ VS h ri li (f left bs bad).2.1 (f left bs bad).2.2.1 (f left bs bad).2.2.2 h')
theorem reach_two2 {h : Heap} {ri li : Nat} {left : Int} {bs : List Int} {bad : Bool} {t : Option TypeId} {d : Int} (hr : Rd h ri bs bad) (hb : ent h li = .blk [.pv (.int .i64 left)] t) (hne : ri ≠ li) :
    reach h h.length (addNew [] ([V.ptr ri 0, V.pv (.int .i64 d), V.ptr li 0].flatMap V.ids)) = [ri, li] := by
  have h1 : addNew [] ([V.ptr ri 0, V.pv (.int .i64 d), V.ptr li 0].flatMap V.ids) = [ri, li] := by
    have : li ≠ ri := fun h => hne h.symm
    simp [V.ids, addNew, this]
  rw [h1]
  obtain ⟨t2, hr⟩ := hr
  have hfm : ([ri, li]).flatMap (fun i => entIds (ent h i)) = [] := by
    simp [hr, hb, entIds, V.ids.idsL, V.ids]
  cases h.length with
  | zero => rfl
  | succ n => simp only [reach, hfm, addNew, if_true]
/-- A value that is read in a region of any order. -/
theorem ReadOk.masked {d : Int} {f : Int → List Int → Bool → Va × Int × List Int × Bool} (H : ReadOk E d f) {h : Heap} {ri li : Nat} {left : Int} {bs : List Int} {bad : Bool} {t : Option TypeId} (hr : Rd h ri bs bad) (hb : ent h li = .blk [.pv (.int .i64 left)] t) (hy : Byt bs) (h0 : 0 ≤ left) (h1 : left ≤ 4000) (hne : ri ≠ li) :
    ∃ r h', limR E 57 [.ptr ri 0, .pv (.int .i64 d), .ptr li 0] (mask [ri, li] h) = some (r, h') ∧ h.length ≤ h'.length ∧ (VOut h.length (merge [ri, li] h h') r (f left bs bad).1 ∧ VS h ri li (f left bs bad).2.1 (f left bs bad).2.2.1 (f left bs bad).2.2.2 (merge [ri, li] h h')) := by
  have hri := rd_lt hr
  have hli := Rp.ent_lt hb
  obtain ⟨t2, hr⟩ := hr
  obtain ⟨r, h', g1, ⟨L, g2, g3⟩, g4⟩ := H (mask [ri, li] h) ri li left bs bad ⟨t2, by rw [ent_mask_in (by simp)]; exact hr⟩ ⟨t, by rw [ent_mask_in (by simp)]; exact hb⟩ hy h0 h1
  rw [length_mask] at g3
  have hlen := g4.but.len
  rw [length_mask] at hlen
  refine ⟨r, h', g1, hlen, ⟨L, g2, ?_⟩, ?_⟩
  · rcases g3 with c | c | ⟨c1, tok, c2, c3, c4⟩
    · exact .inl c
    · exact .inr (.inl c)
    · exact .inr (.inr ⟨c1, tok, c2, by rw [ent_merge_in (.inr c4)]; exact c3, c4⟩)
  · obtain ⟨t3, r3⟩ := g4.rd
    obtain ⟨t4, r4⟩ := g4.box
    exact ⟨⟨t3, by rw [ent_merge_in (.inl (by simp))]; exact r3⟩, ⟨t4, by rw [ent_merge_in (.inl (by simp))]; exact r4⟩, ⟨by rw [merge_len]; exact hlen, fun i hi hn => ent_merge_out hn hi hlen⟩, hri, hli, hne⟩
theorem many0_ok (H : Has E 77 c77) (k : Int) : limP E 77 [.agg [.int .i64 k, .int .u8 0, .sl []]] = some [.int .i64 (manyS k 0)] := many_ok H (.mk k 0 [])

set_option maxHeartbeats 16000000 in
theorem value_body (HH : HasW E) (d : Nat) (hd : d ≤ 1000) (F : Int → List Int → Bool → Va × Int × List Int × Bool) (hF : ∀ left bs, 0 ≤ left → Byt bs → (F left bs false).2.1 ≤ left ∧ ((F left bs false).2.2.2 = false → 0 ≤ (F left bs false).2.1) ∧ Byt (F left bs false).2.2.1)
    (ih : d = 0 ∨ ReadOk E ((d : Int) - 1) F) : ReadOk E d fun left bs bad => (.mk (headT bs (bad || (decide (d < 1) || decide (left - 1 < 0)))).1 (headT bs (bad || (decide (d < 1) || decide (left - 1 < 0)))).2.1 (runV F (headT bs (bad || (decide (d < 1) || decide (left - 1 < 0)))).2.2.1.toNat [] (left - 1) (headT bs (bad || (decide (d < 1) || decide (left - 1 < 0)))).2.2.2.1 (headT bs (bad || (decide (d < 1) || decide (left - 1 < 0)))).2.2.2.2).1,
      (runV F (headT bs (bad || (decide (d < 1) || decide (left - 1 < 0)))).2.2.1.toNat [] (left - 1) (headT bs (bad || (decide (d < 1) || decide (left - 1 < 0)))).2.2.2.1 (headT bs (bad || (decide (d < 1) || decide (left - 1 < 0)))).2.2.2.2).2) := by
  intro h ri li left bs bad hr hbx hb hl0 hl1
  obtain ⟨t, hbx⟩ := hbx
  dsimp only
  refine HH.value.limQE (Nat.le_of_ble_eq_true rfl) ?_; unfold c57
  have hri := rd_lt hr
  have hli := Rp.ent_lt hbx
  have hne : ri ≠ li := by
    rintro rfl
    obtain ⟨t2, h2⟩ := hr
    rw [hbx] at h2
    simp at h2
  have hww : IntKind.i64.wrap (left - 1) = left - 1 := wrap_i64 (by omega)
  have w1 : binA .sub .no (.pv (.int .i64 left)) (.pv (.int .i64 1)) = some (.pv (.int .i64 (left - 1))) := by simp [binA, intBin, hww]
  have hbx1 : ∀ l, ent (h ++ l) li = .blk [.pv (.int .i64 left)] t := fun l => ent_app hbx (by simp)
  have hv0 : VS h ri li left bs bad (h ++ [.blk [.pv (.int .i64 0), .pv (.int .u8 0), .nils] (some 24)]) := ⟨hr.more, ⟨t, hbx1 _⟩, But.refl.more, hri, hli, hne⟩
  iterate 8 (first
    | apply X.retS
    | apply X.skipS
    | apply X.skipB
    | apply X.skipL
    | (apply X.exitS; first | apply X.here | (refine X.out (by decide) ?_; apply X.here))
    | apply X.blockS
    | (apply X.condQ rfl; (focus (simp only [sub, subO, subL, subM, sub3, sub2, fk_some, fk_none, fk_arg0, fk_argS, fk_argN, fk_map0, fk_mapS, fk_mapN, reduceIte, Nat.reduceEqDiff, Nat.reduceAdd]; with_reducible rfl)); all_goals (intro hbr; first | exact absurd hbr (by decide) | ((try rw [hbr]); (try simp at hbr))))
    | apply X.stepZ
    | (apply X.stepQ rfl; (focus (simp only [sub, subO, subL, subM, sub3, sub2, fk_some, fk_none, fk_arg0, fk_argS, fk_argN, fk_map0, fk_mapS, fk_mapN, reduceIte, Nat.reduceEqDiff, Nat.reduceAdd]; with_reducible rfl)); (focus (simp [-getElem?_pos, -binA, w1, hbx1]; with_reducible (first | rfl | exact ⟨rfl, rfl⟩))))
    | (apply X.stepNQ rfl; (focus (simp only [sub, subO, subL, subM, sub3, sub2, fk_some, fk_none, fk_arg0, fk_argS, fk_argN, fk_map0, fk_mapS, fk_mapN, reduceIte, Nat.reduceEqDiff, Nat.reduceAdd]; with_reducible rfl)))
    | ((first | apply X.stepGtQ rfl | apply X.stepGfQ rfl); (focus (simp only [sub, subO, subL, subM, sub3, sub2, fk_some, fk_none, fk_arg0, fk_argS, fk_argN, fk_map0, fk_mapS, fk_mapN, reduceIte, Nat.reduceEqDiff, Nat.reduceAdd]; with_reducible rfl)); all_goals (intro hbr; first | exact absurd hbr (by decide) | ((try rw [hbr]); (try simp at hbr)))))
  refine X.abs2 (fun st => ∃ (hh : Heap) (f : Nat → V), (VS h ri li (left - 1) bs bad hh ∧ ent hh h.length = .blk [.pv (.int .i64 0), .pv (.int .u8 0), .nils] (some 24)) ∧ (fk (Fk.mk (f := f)) 0 = .ptr ri 0 ∧ fk (Fk.mk (f := f)) 1 = .pv (.int .i64 (d : Int)) ∧ fk (Fk.mk (f := f)) 2 = .ptr li 0 ∧ fk (Fk.mk (f := f)) 6 = .ptr h.length 0) ∧ st = ⟨TL 66 f, hh⟩) ?_ ?_
  · refine ⟨_, _, ⟨hv0.count, ?_⟩, by simp, rfl⟩
    rw [ent_set_ne (by omega)]
    exact ent_at0
  clear hv0 hbx hbx1 hww w1 hr
  rintro st ⟨hh, f, ⟨S0, x6⟩, ⟨f0, f1, f2, f6⟩, rfl⟩
  refine X.stepZ ?_
  rw [app_seq]
  refine X.midA (fun st => ∃ (hh : Heap) (f : Nat → V), (VS h ri li (left - 1) bs (bad || (decide (d < 1) || decide (left - 1 < 0))) hh ∧ ent hh h.length = .blk [.pv (.int .i64 0), .pv (.int .u8 0), .nils] (some 24)) ∧ (fk (Fk.mk (f := f)) 0 = .ptr ri 0 ∧ fk (Fk.mk (f := f)) 1 = .pv (.int .i64 (d : Int)) ∧ fk (Fk.mk (f := f)) 2 = .ptr li 0 ∧ fk (Fk.mk (f := f)) 6 = .ptr h.length 0) ∧ st = ⟨TL 66 f, hh⟩) ?_ ?_
  · obtain ⟨t1, y1⟩ := S0.rd
    obtain ⟨t2, y2⟩ := S0.box
    by_cases h1 : d < 1
    · have w1 : binA .lss .no (.pv (.int .i64 (d : Int))) (.pv (.int .i64 1)) = some (.pv (.bool true)) := by simp [binA, intBin]; omega
      have e0 : (bad || (decide (d < 1) || decide (left - 1 < 0))) = true := by simp [h1]
      rw [e0]
      (repeat' first
    | apply X.retS
    | apply X.skipS
    | apply X.skipB
    | apply X.skipL
    | (apply X.exitS; first | apply X.here | (refine X.out (by decide) ?_; apply X.here))
    | apply X.blockS
    | (apply X.condQ rfl; (focus (simp only [sub, subO, subL, subM, sub3, sub2, fk_some, fk_none, fk_arg0, fk_argS, fk_argN, fk_map0, fk_mapS, fk_mapN, reduceIte, Nat.reduceEqDiff, Nat.reduceAdd, f0, f1, f2, f6]; with_reducible rfl)); all_goals (intro hbr; first | exact absurd hbr (by decide) | ((try rw [hbr]); (try simp at hbr))))
    | apply X.stepZ
    | (apply X.stepQ rfl; (focus (simp only [sub, subO, subL, subM, sub3, sub2, fk_some, fk_none, fk_arg0, fk_argS, fk_argN, fk_map0, fk_mapS, fk_mapN, reduceIte, Nat.reduceEqDiff, Nat.reduceAdd, f0, f1, f2, f6]; with_reducible rfl)); (focus (simp [-getElem?_pos, -binA, w1, y1]; with_reducible (first | rfl | exact ⟨rfl, rfl⟩))))
    | (apply X.stepNQ rfl; (focus (simp only [sub, subO, subL, subM, sub3, sub2, fk_some, fk_none, fk_arg0, fk_argS, fk_argN, fk_map0, fk_mapS, fk_mapN, reduceIte, Nat.reduceEqDiff, Nat.reduceAdd, f0, f1, f2, f6]; with_reducible rfl)))
    | ((first | apply X.stepGtQ rfl | apply X.stepGfQ rfl); (focus (simp only [sub, subO, subL, subM, sub3, sub2, fk_some, fk_none, fk_arg0, fk_argS, fk_argN, fk_map0, fk_mapS, fk_mapN, reduceIte, Nat.reduceEqDiff, Nat.reduceAdd, f0, f1, f2, f6]; with_reducible rfl)); all_goals (intro hbr; first | exact absurd hbr (by decide) | ((try rw [hbr]); (try simp at hbr)))))
      refine ⟨_, _, ⟨S0.turn, ?_⟩, by simp [f0, f1, f2, f6], rfl⟩
      rw [ent_set_ne (by omega)]
      exact x6
    · have w1 : binA .lss .no (.pv (.int .i64 (d : Int))) (.pv (.int .i64 1)) = some (.pv (.bool false)) := by simp [binA, intBin]; omega
      by_cases h2 : left - 1 < 0
      · have w2 : binA .lss .no (.pv (.int .i64 (left - 1))) (.pv (.int .i64 0)) = some (.pv (.bool true)) := by simp [binA, intBin, h2]
        have e0 : (bad || (decide (d < 1) || decide (left - 1 < 0))) = true := by simp [h2]
        rw [e0]
        (repeat' first
    | apply X.retS
    | apply X.skipS
    | apply X.skipB
    | apply X.skipL
    | (apply X.exitS; first | apply X.here | (refine X.out (by decide) ?_; apply X.here))
    | apply X.blockS
    | (apply X.condQ rfl; (focus (simp only [sub, subO, subL, subM, sub3, sub2, fk_some, fk_none, fk_arg0, fk_argS, fk_argN, fk_map0, fk_mapS, fk_mapN, reduceIte, Nat.reduceEqDiff, Nat.reduceAdd, f0, f1, f2, f6]; with_reducible rfl)); all_goals (intro hbr; first | exact absurd hbr (by decide) | ((try rw [hbr]); (try simp at hbr))))
    | apply X.stepZ
    | (apply X.stepQ rfl; (focus (simp only [sub, subO, subL, subM, sub3, sub2, fk_some, fk_none, fk_arg0, fk_argS, fk_argN, fk_map0, fk_mapS, fk_mapN, reduceIte, Nat.reduceEqDiff, Nat.reduceAdd, f0, f1, f2, f6]; with_reducible rfl)); (focus (simp [-getElem?_pos, -binA, w1, w2, y1, y2]; with_reducible (first | rfl | exact ⟨rfl, rfl⟩))))
    | (apply X.stepNQ rfl; (focus (simp only [sub, subO, subL, subM, sub3, sub2, fk_some, fk_none, fk_arg0, fk_argS, fk_argN, fk_map0, fk_mapS, fk_mapN, reduceIte, Nat.reduceEqDiff, Nat.reduceAdd, f0, f1, f2, f6]; with_reducible rfl)))
    | ((first | apply X.stepGtQ rfl | apply X.stepGfQ rfl); (focus (simp only [sub, subO, subL, subM, sub3, sub2, fk_some, fk_none, fk_arg0, fk_argS, fk_argN, fk_map0, fk_mapS, fk_mapN, reduceIte, Nat.reduceEqDiff, Nat.reduceAdd, f0, f1, f2, f6]; with_reducible rfl)); all_goals (intro hbr; first | exact absurd hbr (by decide) | ((try rw [hbr]); (try simp at hbr)))))
        refine ⟨_, _, ⟨S0.turn, ?_⟩, by simp [f0, f1, f2, f6], rfl⟩
        rw [ent_set_ne (by omega)]
        exact x6
      · have w2 : binA .lss .no (.pv (.int .i64 (left - 1))) (.pv (.int .i64 0)) = some (.pv (.bool false)) := by simp [binA, intBin, h2]
        have e0 : (bad || (decide (d < 1) || decide (left - 1 < 0))) = bad := by simp [h1, h2]
        rw [e0]
        (repeat' first
    | apply X.retS
    | apply X.skipS
    | apply X.skipB
    | apply X.skipL
    | (apply X.exitS; first | apply X.here | (refine X.out (by decide) ?_; apply X.here))
    | apply X.blockS
    | (apply X.condQ rfl; (focus (simp only [sub, subO, subL, subM, sub3, sub2, fk_some, fk_none, fk_arg0, fk_argS, fk_argN, fk_map0, fk_mapS, fk_mapN, reduceIte, Nat.reduceEqDiff, Nat.reduceAdd, f0, f1, f2, f6]; with_reducible rfl)); all_goals (intro hbr; first | exact absurd hbr (by decide) | ((try rw [hbr]); (try simp at hbr))))
    | apply X.stepZ
    | (apply X.stepQ rfl; (focus (simp only [sub, subO, subL, subM, sub3, sub2, fk_some, fk_none, fk_arg0, fk_argS, fk_argN, fk_map0, fk_mapS, fk_mapN, reduceIte, Nat.reduceEqDiff, Nat.reduceAdd, f0, f1, f2, f6]; with_reducible rfl)); (focus (simp [-getElem?_pos, -binA, w1, w2, y1, y2]; with_reducible (first | rfl | exact ⟨rfl, rfl⟩))))
    | (apply X.stepNQ rfl; (focus (simp only [sub, subO, subL, subM, sub3, sub2, fk_some, fk_none, fk_arg0, fk_argS, fk_argN, fk_map0, fk_mapS, fk_mapN, reduceIte, Nat.reduceEqDiff, Nat.reduceAdd, f0, f1, f2, f6]; with_reducible rfl)))
    | ((first | apply X.stepGtQ rfl | apply X.stepGfQ rfl); (focus (simp only [sub, subO, subL, subM, sub3, sub2, fk_some, fk_none, fk_arg0, fk_argS, fk_argN, fk_map0, fk_mapS, fk_mapN, reduceIte, Nat.reduceEqDiff, Nat.reduceAdd, f0, f1, f2, f6]; with_reducible rfl)); all_goals (intro hbr; first | exact absurd hbr (by decide) | ((try rw [hbr]); (try simp at hbr)))))
        exact ⟨_, _, ⟨S0, x6⟩, by simp [f0, f1, f2, f6], rfl⟩
  have hbt : d = 0 → (bad || (decide (d < 1) || decide (left - 1 < 0))) = true := fun h => by simp [h]
  have hlt : (bad || (decide (d < 1) || decide (left - 1 < 0))) = false → 0 ≤ left - 1 := fun h => by simp at h; omega
  generalize (bad || (decide (d < 1) || decide (left - 1 < 0))) = bad0 at hbt hlt ⊢
  clear S0 x6 f0 f1 f2 f6
  rintro st ⟨hh, f, ⟨S0, x6⟩, ⟨f0, f1, f2, f6⟩, rfl⟩
  have htk := take1 HH.u.t hh ri bs bad0 hb S0.rd
  have hby1 := take_byt (k := 1) (bad := bad0) hb
  have hhd := @headT.eq_1 bs bad0
  generalize hT : takeS 1 bs bad0 = T at htk hby1 hhd
  obtain ⟨k, bs1, bad1⟩ := T
  dsimp only at htk hby1 hhd
  (repeat' first
    | apply X.retS
    | apply X.skipS
    | apply X.skipB
    | apply X.skipL
    | (apply X.exitS; first | apply X.here | (refine X.out (by decide) ?_; apply X.here))
    | apply X.blockS
    | (apply X.condQ rfl; (focus (simp only [sub, subO, subL, subM, sub3, sub2, fk_some, fk_none, fk_arg0, fk_argS, fk_argN, fk_map0, fk_mapS, fk_mapN, reduceIte, Nat.reduceEqDiff, Nat.reduceAdd, f0, f1, f2, f6]; with_reducible rfl)); all_goals (intro hbr; first | exact absurd hbr (by decide) | ((try rw [hbr]); (try simp at hbr))))
    | apply X.stepZ
    | (apply X.stepQ rfl; (focus (simp only [sub, subO, subL, subM, sub3, sub2, fk_some, fk_none, fk_arg0, fk_argS, fk_argN, fk_map0, fk_mapS, fk_mapN, reduceIte, Nat.reduceEqDiff, Nat.reduceAdd, f0, f1, f2, f6]; with_reducible rfl)); (focus (simp [-getElem?_pos]; with_reducible (first | rfl | exact ⟨rfl, rfl⟩))))
    | (apply X.stepNQ rfl; (focus (simp only [sub, subO, subL, subM, sub3, sub2, fk_some, fk_none, fk_arg0, fk_argS, fk_argN, fk_map0, fk_mapS, fk_mapN, reduceIte, Nat.reduceEqDiff, Nat.reduceAdd, f0, f1, f2, f6]; with_reducible rfl)))
    | ((first | apply X.stepGtQ rfl | apply X.stepGfQ rfl); (focus (simp only [sub, subO, subL, subM, sub3, sub2, fk_some, fk_none, fk_arg0, fk_argS, fk_argN, fk_map0, fk_mapS, fk_mapN, reduceIte, Nat.reduceEqDiff, Nat.reduceAdd, f0, f1, f2, f6]; with_reducible rfl)); all_goals (intro hbr; first | exact absurd hbr (by decide) | ((try rw [hbr]); (try simp at hbr)))))
  refine X.callRQ (P := _) rfl (by simp only [sub, subO, subL, subM, sub3, sub2, fk_some, fk_none, fk_arg0, fk_argS, fk_argN, fk_map0, fk_mapS, fk_mapN, reduceIte, Nat.reduceEqDiff, Nat.reduceAdd, f0, f1, f2, f6]; all_goals (first | with_reducible rfl | (simp <;> with_reducible rfl))) HH.u.t.take.raw (by simp [pures]) (htk) ?_
  rintro _ h3 ⟨rfl, R3, B3⟩
  have S3 := S0.take R3 B3
  have x3 : ent h3 h.length = _ := (B3.old _ (Rp.ent_lt x6) (by simp; omega)).trans x6
  clear htk hT S0 R3 B3 x6
  have hmany := many0_ok HH.many k
  iterate 8 (first
    | apply X.retS
    | apply X.skipS
    | apply X.skipB
    | apply X.skipL
    | (apply X.exitS; first | apply X.here | (refine X.out (by decide) ?_; apply X.here))
    | apply X.blockS
    | (apply X.condQ rfl; (focus (simp only [sub, subO, subL, subM, sub3, sub2, fk_some, fk_none, fk_arg0, fk_argS, fk_argN, fk_map0, fk_mapS, fk_mapN, reduceIte, Nat.reduceEqDiff, Nat.reduceAdd, f0, f1, f2, f6]; with_reducible rfl)); all_goals (intro hbr; first | exact absurd hbr (by decide) | ((try rw [hbr]); (try simp at hbr))))
    | apply X.stepZ
    | (apply X.stepQ rfl; (focus (simp only [sub, subO, subL, subM, sub3, sub2, fk_some, fk_none, fk_arg0, fk_argS, fk_argN, fk_map0, fk_mapS, fk_mapN, reduceIte, Nat.reduceEqDiff, Nat.reduceAdd, f0, f1, f2, f6]; with_reducible rfl)); (focus (simp [-getElem?_pos, HH.many.raw, hmany]; with_reducible (first | rfl | exact ⟨rfl, rfl⟩))))
    | (apply X.stepNQ rfl; (focus (simp only [sub, subO, subL, subM, sub3, sub2, fk_some, fk_none, fk_arg0, fk_argS, fk_argN, fk_map0, fk_mapS, fk_mapN, reduceIte, Nat.reduceEqDiff, Nat.reduceAdd, f0, f1, f2, f6]; with_reducible rfl)))
    | ((first | apply X.stepGtQ rfl | apply X.stepGfQ rfl); (focus (simp only [sub, subO, subL, subM, sub3, sub2, fk_some, fk_none, fk_arg0, fk_argS, fk_argN, fk_map0, fk_mapS, fk_mapN, reduceIte, Nat.reduceEqDiff, Nat.reduceAdd, f0, f1, f2, f6]; with_reducible rfl)); all_goals (intro hbr; first | exact absurd hbr (by decide) | ((try rw [hbr]); (try simp at hbr)))))
  rw [app_seq]
  refine X.midA (fun st => ∃ (hh : Heap) (k7 : Nat) (f : Nat → V), (VS h ri li (left - 1) (headT bs bad0).2.2.2.1 (headT bs bad0).2.2.2.2 hh ∧ ent hh h.length = .blk [.pv (.int .i64 0), .pv (.int .u8 0), .nils] (some 24) ∧ h.length < k7 ∧ ∃ ty, ent hh k7 = .blk [.pv (.int .i64 (headT bs bad0).1), .pv (.int .u8 (headT bs bad0).2.1), .nils] ty) ∧
    (fk (Fk.mk (f := f)) 0 = .ptr ri 0 ∧ fk (Fk.mk (f := f)) 1 = .pv (.int .i64 (d : Int)) ∧ fk (Fk.mk (f := f)) 2 = .ptr li 0 ∧ fk (Fk.mk (f := f)) 6 = .ptr h.length 0 ∧ fk (Fk.mk (f := f)) 7 = .ptr k7 0 ∧ fk (Fk.mk (f := f)) 8 = .pv (.int .i64 (headT bs bad0).2.2.1)) ∧ st = ⟨TL 66 f, hh⟩) ?_ ?_
  · have hl3 : h.length < h3.length := Rp.ent_lt x3
    have S4 := S3.more (l := [.blk [.pv (.int .i64 k), .pv (.int .u8 0), .nils] (some 24)])
    have x4 : ∀ l, ent (h3 ++ l) h.length = _ := fun l => ent_app x3 (by simp)
    rw [hhd]
    by_cases k2 : k = 2
    · subst k2
      simp only [if_true]
      have hta := take1 HH.u.t (h3 ++ [.blk [.pv (.int .i64 2), .pv (.int .u8 0), .nils] (some 24)]) ri bs1 bad1 hby1 S4.rd
      have hrc := take1_rng (bad := bad1) hby1
      generalize takeS 1 bs1 bad1 = T at hta hrc ⊢
      obtain ⟨c, bs2, bad2⟩ := T
      dsimp only at hta hrc ⊢
      have hwc : IntKind.u8.wrap c = c := by rw [IntKind.wrap_u8]; omega
      (repeat' first
    | apply X.retS
    | apply X.skipS
    | apply X.skipB
    | apply X.skipL
    | (apply X.exitS; first | apply X.here | (refine X.out (by decide) ?_; apply X.here))
    | apply X.blockS
    | (apply X.condQ rfl; (focus (simp only [sub, subO, subL, subM, sub3, sub2, fk_some, fk_none, fk_arg0, fk_argS, fk_argN, fk_map0, fk_mapS, fk_mapN, reduceIte, Nat.reduceEqDiff, Nat.reduceAdd, f0, f1, f2, f6]; with_reducible rfl)); all_goals (intro hbr; first | exact absurd hbr (by decide) | ((try rw [hbr]); (try simp at hbr))))
    | apply X.stepZ
    | (apply X.stepQ rfl; (focus (simp only [sub, subO, subL, subM, sub3, sub2, fk_some, fk_none, fk_arg0, fk_argS, fk_argN, fk_map0, fk_mapS, fk_mapN, reduceIte, Nat.reduceEqDiff, Nat.reduceAdd, f0, f1, f2, f6]; with_reducible rfl)); (focus (simp [-getElem?_pos]; with_reducible (first | rfl | exact ⟨rfl, rfl⟩))))
    | (apply X.stepNQ rfl; (focus (simp only [sub, subO, subL, subM, sub3, sub2, fk_some, fk_none, fk_arg0, fk_argS, fk_argN, fk_map0, fk_mapS, fk_mapN, reduceIte, Nat.reduceEqDiff, Nat.reduceAdd, f0, f1, f2, f6]; with_reducible rfl)))
    | ((first | apply X.stepGtQ rfl | apply X.stepGfQ rfl); (focus (simp only [sub, subO, subL, subM, sub3, sub2, fk_some, fk_none, fk_arg0, fk_argS, fk_argN, fk_map0, fk_mapS, fk_mapN, reduceIte, Nat.reduceEqDiff, Nat.reduceAdd, f0, f1, f2, f6]; with_reducible rfl)); all_goals (intro hbr; first | exact absurd hbr (by decide) | ((try rw [hbr]); (try simp at hbr)))))
      refine X.callRQ (P := _) rfl (by simp only [sub, subO, subL, subM, sub3, sub2, fk_some, fk_none, fk_arg0, fk_argS, fk_argN, fk_map0, fk_mapS, fk_mapN, reduceIte, Nat.reduceEqDiff, Nat.reduceAdd, f0, f1, f2, f6]; all_goals (first | with_reducible rfl | (simp <;> with_reducible rfl))) HH.u.t.take.raw (by simp [pures]) (hta) ?_
      rintro _ h4 ⟨rfl, R4, B4⟩
      have S5 := S4.take R4 B4
      have x7 : ent h4 h3.length = .blk [.pv (.int .i64 2), .pv (.int .u8 0), .nils] (some 24) := (B4.old _ (by simp) (by simp; omega)).trans ent_at0
      have x6 : ent h4 h.length = _ := (B4.old _ (by simp; omega) (by simp; omega)).trans (x4 _)
      have hl4 := Rp.ent_lt x7
      clear hta R4 B4 S4 x4 x3 S3
      (repeat' first
    | apply X.retS
    | apply X.skipS
    | apply X.skipB
    | apply X.skipL
    | (apply X.exitS; first | apply X.here | (refine X.out (by decide) ?_; apply X.here))
    | apply X.blockS
    | (apply X.condQ rfl; (focus (simp only [sub, subO, subL, subM, sub3, sub2, fk_some, fk_none, fk_arg0, fk_argS, fk_argN, fk_map0, fk_mapS, fk_mapN, reduceIte, Nat.reduceEqDiff, Nat.reduceAdd, f0, f1, f2, f6]; with_reducible rfl)); all_goals (intro hbr; first | exact absurd hbr (by decide) | ((try rw [hbr]); (try simp at hbr))))
    | apply X.stepZ
    | (apply X.stepQ rfl; (focus (simp only [sub, subO, subL, subM, sub3, sub2, fk_some, fk_none, fk_arg0, fk_argS, fk_argN, fk_map0, fk_mapS, fk_mapN, reduceIte, Nat.reduceEqDiff, Nat.reduceAdd, f0, f1, f2, f6]; with_reducible rfl)); (focus (simp [-getElem?_pos, x7, hwc]; with_reducible (first | rfl | exact ⟨rfl, rfl⟩))))
    | (apply X.stepNQ rfl; (focus (simp only [sub, subO, subL, subM, sub3, sub2, fk_some, fk_none, fk_arg0, fk_argS, fk_argN, fk_map0, fk_mapS, fk_mapN, reduceIte, Nat.reduceEqDiff, Nat.reduceAdd, f0, f1, f2, f6]; with_reducible rfl)))
    | ((first | apply X.stepGtQ rfl | apply X.stepGfQ rfl); (focus (simp only [sub, subO, subL, subM, sub3, sub2, fk_some, fk_none, fk_arg0, fk_argS, fk_argN, fk_map0, fk_mapS, fk_mapN, reduceIte, Nat.reduceEqDiff, Nat.reduceAdd, f0, f1, f2, f6]; with_reducible rfl)); all_goals (intro hbr; first | exact absurd hbr (by decide) | ((try rw [hbr]); (try simp at hbr)))))
      refine ⟨_, h3.length, _, ⟨S5.up (by omega), ?_, hl3, some 24, by simp [ent, hl4]⟩, by simp [f0, f1, f2, f6, manyS], rfl⟩
      rw [ent_set_ne (by omega)]
      exact x6
    · rw [if_neg k2]
      have v1 : binA .eql .no (.pv (.int .i64 k)) (.pv (.int .i64 2)) = some (.pv (.bool false)) := by simp [binA, intBin, k2]
      by_cases k6 : k = 6
      · subst k6
        simp only [if_true]
        have v2 : binA .eql .no (.pv (.int .i64 6)) (.pv (.int .i64 6)) = some (.pv (.bool true)) := by simp [binA, intBin]
        have hta := take2 HH.u.t (h3 ++ [.blk [.pv (.int .i64 6), .pv (.int .u8 0), .nils] (some 24)]) ri bs1 bad1 hby1 S4.rd
        generalize takeS 2 bs1 bad1 = T at hta ⊢
        obtain ⟨c, bs2, bad2⟩ := T
        dsimp only at hta ⊢
        (repeat' first
    | apply X.retS
    | apply X.skipS
    | apply X.skipB
    | apply X.skipL
    | (apply X.exitS; first | apply X.here | (refine X.out (by decide) ?_; apply X.here))
    | apply X.blockS
    | (apply X.condQ rfl; (focus (simp only [sub, subO, subL, subM, sub3, sub2, fk_some, fk_none, fk_arg0, fk_argS, fk_argN, fk_map0, fk_mapS, fk_mapN, reduceIte, Nat.reduceEqDiff, Nat.reduceAdd, f0, f1, f2, f6]; with_reducible rfl)); all_goals (intro hbr; first | exact absurd hbr (by decide) | ((try rw [hbr]); (try simp at hbr))))
    | apply X.stepZ
    | (apply X.stepQ rfl; (focus (simp only [sub, subO, subL, subM, sub3, sub2, fk_some, fk_none, fk_arg0, fk_argS, fk_argN, fk_map0, fk_mapS, fk_mapN, reduceIte, Nat.reduceEqDiff, Nat.reduceAdd, f0, f1, f2, f6]; with_reducible rfl)); (focus (simp [-getElem?_pos, -binA, v1, v2]; with_reducible (first | rfl | exact ⟨rfl, rfl⟩))))
    | (apply X.stepNQ rfl; (focus (simp only [sub, subO, subL, subM, sub3, sub2, fk_some, fk_none, fk_arg0, fk_argS, fk_argN, fk_map0, fk_mapS, fk_mapN, reduceIte, Nat.reduceEqDiff, Nat.reduceAdd, f0, f1, f2, f6]; with_reducible rfl)))
    | ((first | apply X.stepGtQ rfl | apply X.stepGfQ rfl); (focus (simp only [sub, subO, subL, subM, sub3, sub2, fk_some, fk_none, fk_arg0, fk_argS, fk_argN, fk_map0, fk_mapS, fk_mapN, reduceIte, Nat.reduceEqDiff, Nat.reduceAdd, f0, f1, f2, f6]; with_reducible rfl)); all_goals (intro hbr; first | exact absurd hbr (by decide) | ((try rw [hbr]); (try simp at hbr)))))
        refine X.callRQ (P := _) rfl (by simp only [sub, subO, subL, subM, sub3, sub2, fk_some, fk_none, fk_arg0, fk_argS, fk_argN, fk_map0, fk_mapS, fk_mapN, reduceIte, Nat.reduceEqDiff, Nat.reduceAdd, f0, f1, f2, f6]; all_goals (first | with_reducible rfl | (simp <;> with_reducible rfl))) HH.u.t.take.raw (by simp [pures]) (hta) ?_
        rintro _ h4 ⟨rfl, R4, B4⟩
        have S5 := S4.take R4 B4
        have x7 : ent h4 h3.length = .blk [.pv (.int .i64 6), .pv (.int .u8 0), .nils] (some 24) := (B4.old _ (by simp) (by simp; omega)).trans ent_at0
        have x6 : ent h4 h.length = _ := (B4.old _ (by simp; omega) (by simp; omega)).trans (x4 _)
        clear hta R4 B4 S4 x4 x3 S3
        (repeat' first
    | apply X.retS
    | apply X.skipS
    | apply X.skipB
    | apply X.skipL
    | (apply X.exitS; first | apply X.here | (refine X.out (by decide) ?_; apply X.here))
    | apply X.blockS
    | (apply X.condQ rfl; (focus (simp only [sub, subO, subL, subM, sub3, sub2, fk_some, fk_none, fk_arg0, fk_argS, fk_argN, fk_map0, fk_mapS, fk_mapN, reduceIte, Nat.reduceEqDiff, Nat.reduceAdd, f0, f1, f2, f6]; with_reducible rfl)); all_goals (intro hbr; first | exact absurd hbr (by decide) | ((try rw [hbr]); (try simp at hbr))))
    | apply X.stepZ
    | (apply X.stepQ rfl; (focus (simp only [sub, subO, subL, subM, sub3, sub2, fk_some, fk_none, fk_arg0, fk_argS, fk_argN, fk_map0, fk_mapS, fk_mapN, reduceIte, Nat.reduceEqDiff, Nat.reduceAdd, f0, f1, f2, f6]; with_reducible rfl)); (focus (simp [-getElem?_pos]; with_reducible (first | rfl | exact ⟨rfl, rfl⟩))))
    | (apply X.stepNQ rfl; (focus (simp only [sub, subO, subL, subM, sub3, sub2, fk_some, fk_none, fk_arg0, fk_argS, fk_argN, fk_map0, fk_mapS, fk_mapN, reduceIte, Nat.reduceEqDiff, Nat.reduceAdd, f0, f1, f2, f6]; with_reducible rfl)))
    | ((first | apply X.stepGtQ rfl | apply X.stepGfQ rfl); (focus (simp only [sub, subO, subL, subM, sub3, sub2, fk_some, fk_none, fk_arg0, fk_argS, fk_argN, fk_map0, fk_mapS, fk_mapN, reduceIte, Nat.reduceEqDiff, Nat.reduceAdd, f0, f1, f2, f6]; with_reducible rfl)); all_goals (intro hbr; first | exact absurd hbr (by decide) | ((try rw [hbr]); (try simp at hbr)))))
        exact ⟨_, h3.length, _, ⟨S5, x6, hl3, _, x7⟩, by simp [f0, f1, f2, f6], rfl⟩
      · rw [if_neg k6]
        have v2 : binA .eql .no (.pv (.int .i64 k)) (.pv (.int .i64 6)) = some (.pv (.bool false)) := by simp [binA, intBin, k6]
        (repeat' first
    | apply X.retS
    | apply X.skipS
    | apply X.skipB
    | apply X.skipL
    | (apply X.exitS; first | apply X.here | (refine X.out (by decide) ?_; apply X.here))
    | apply X.blockS
    | (apply X.condQ rfl; (focus (simp only [sub, subO, subL, subM, sub3, sub2, fk_some, fk_none, fk_arg0, fk_argS, fk_argN, fk_map0, fk_mapS, fk_mapN, reduceIte, Nat.reduceEqDiff, Nat.reduceAdd, f0, f1, f2, f6]; with_reducible rfl)); all_goals (intro hbr; first | exact absurd hbr (by decide) | ((try rw [hbr]); (try simp at hbr))))
    | apply X.stepZ
    | (apply X.stepQ rfl; (focus (simp only [sub, subO, subL, subM, sub3, sub2, fk_some, fk_none, fk_arg0, fk_argS, fk_argN, fk_map0, fk_mapS, fk_mapN, reduceIte, Nat.reduceEqDiff, Nat.reduceAdd, f0, f1, f2, f6]; with_reducible rfl)); (focus (simp [-getElem?_pos, -binA, v1, v2]; with_reducible (first | rfl | exact ⟨rfl, rfl⟩))))
    | (apply X.stepNQ rfl; (focus (simp only [sub, subO, subL, subM, sub3, sub2, fk_some, fk_none, fk_arg0, fk_argS, fk_argN, fk_map0, fk_mapS, fk_mapN, reduceIte, Nat.reduceEqDiff, Nat.reduceAdd, f0, f1, f2, f6]; with_reducible rfl)))
    | ((first | apply X.stepGtQ rfl | apply X.stepGfQ rfl); (focus (simp only [sub, subO, subL, subM, sub3, sub2, fk_some, fk_none, fk_arg0, fk_argS, fk_argN, fk_map0, fk_mapS, fk_mapN, reduceIte, Nat.reduceEqDiff, Nat.reduceAdd, f0, f1, f2, f6]; with_reducible rfl)); all_goals (intro hbr; first | exact absurd hbr (by decide) | ((try rw [hbr]); (try simp at hbr)))))
        exact ⟨_, h3.length, _, ⟨S4, x4 _, hl3, _, ent_at0⟩, by simp [f0, f1, f2, f6], rfl⟩
  have hpb := headT_byt (bad := bad0) hb
  have hpn := headT_n (bad := bad0) hb
  have hp0 : bad0 = true → (headT bs bad0).2.2.1 = -1 ∧ (headT bs bad0).2.2.2.2 = true := fun h => by rw [h, headT_bad]; exact ⟨rfl, rfl⟩
  clear hhd S3 x3 f0 f1 f2 f6 hby1 hmany
  generalize headT bs bad0 = p at hpb hpn hp0 ⊢
  obtain ⟨k, c, n, bs2, bad2⟩ := p
  dsimp only at hpb hpn hp0 ⊢
  rintro st ⟨hh, k7, f, ⟨S0, x6, hk7, ty7, x7⟩, ⟨f0, f1, f2, f6, f7, f8⟩, rfl⟩
  (repeat' first
    | apply X.retS
    | apply X.skipS
    | apply X.skipB
    | apply X.skipL
    | (apply X.exitS; first | apply X.here | (refine X.out (by decide) ?_; apply X.here))
    | apply X.blockS
    | (apply X.condQ rfl; (focus (simp only [sub, subO, subL, subM, sub3, sub2, fk_some, fk_none, fk_arg0, fk_argS, fk_argN, fk_map0, fk_mapS, fk_mapN, reduceIte, Nat.reduceEqDiff, Nat.reduceAdd, f0, f1, f2, f6, f7, f8]; with_reducible rfl)); all_goals (intro hbr; first | exact absurd hbr (by decide) | ((try rw [hbr]); (try simp at hbr))))
    | apply X.stepZ
    | (apply X.stepQ rfl; (focus (simp only [sub, subO, subL, subM, sub3, sub2, fk_some, fk_none, fk_arg0, fk_argS, fk_argN, fk_map0, fk_mapS, fk_mapN, reduceIte, Nat.reduceEqDiff, Nat.reduceAdd, f0, f1, f2, f6, f7, f8]; with_reducible rfl)); (focus (simp [-getElem?_pos]; with_reducible (first | rfl | exact ⟨rfl, rfl⟩))))
    | (apply X.stepNQ rfl; (focus (simp only [sub, subO, subL, subM, sub3, sub2, fk_some, fk_none, fk_arg0, fk_argS, fk_argN, fk_map0, fk_mapS, fk_mapN, reduceIte, Nat.reduceEqDiff, Nat.reduceAdd, f0, f1, f2, f6, f7, f8]; with_reducible rfl)))
    | ((first | apply X.stepGtQ rfl | apply X.stepGfQ rfl); (focus (simp only [sub, subO, subL, subM, sub3, sub2, fk_some, fk_none, fk_arg0, fk_argS, fk_argN, fk_map0, fk_mapS, fk_mapN, reduceIte, Nat.reduceEqDiff, Nat.reduceAdd, f0, f1, f2, f6, f7, f8]; with_reducible rfl)); all_goals (intro hbr; first | exact absurd hbr (by decide) | ((try rw [hbr]); (try simp at hbr)))))
  have hst : bad2 = false → 0 ≤ left - 1 := fun h => hlt (by
    cases hb0 : bad0 with
    | false => rfl
    | true => have := (hp0 hb0).2; rw [h] at this; cases this)
  have hd0 : d = 0 → n = -1 := fun h => (hp0 (hbt h)).1
  clear hp0 hlt hbt
  generalize hQ : runV F n.toNat [] (left - 1) bs2 bad2 = Q
  refine X.forS n.toNat (fun j st => ∃ (hh : Heap) (L : V) (acc : List Va) (left2 : Int) (bs3 : List Int) (bad3 : Bool) (f : Nat → V), (VS h ri li left2 bs3 bad3 hh ∧ ent hh h.length = .blk [.pv (.int .i64 0), .pv (.int .u8 0), .nils] (some 24) ∧ (∃ ty, ent hh k7 = .blk [.pv (.int .i64 k), .pv (.int .u8 c), L] ty) ∧
      Rw h.length hh L (acc.map encV) ∧ Byt bs3 ∧ (bad3 = false → 0 ≤ left2) ∧ left2 ≤ 4000 ∧ runV F (n.toNat - j) acc left2 bs3 bad3 = Q ∧ acc.length = j) ∧
    (fk (Fk.mk (f := f)) 0 = .ptr ri 0 ∧ fk (Fk.mk (f := f)) 1 = .pv (.int .i64 (d : Int)) ∧ fk (Fk.mk (f := f)) 2 = .ptr li 0 ∧ fk (Fk.mk (f := f)) 6 = .ptr h.length 0 ∧ fk (Fk.mk (f := f)) 7 = .ptr k7 0 ∧ fk (Fk.mk (f := f)) 8 = .pv (.int .i64 n) ∧ fk (Fk.mk (f := f)) 9 = .pv (.int .i64 (j : Int))) ∧ st = ⟨TL 66 f, hh⟩) ?_ ?_
  · exact ⟨hh, .nils, [], left - 1, bs2, bad2, _, ⟨S0, x6, ⟨ty7, x7⟩, .inl ⟨rfl, rfl⟩, hpb, hst, by omega, hQ, rfl⟩, by simp [f0, f1, f2, f6, f7, f8], rfl⟩
  clear S0 x6 x7 ty7 f0 f1 f2 f6 f7 f8 hpb hst hQ
  rintro j st hj ⟨hh, L, acc, left2, bs3, bad3, f, ⟨S0, x6, ⟨ty7, x7⟩, W0, hb3, hl2, hl3, hru, hal⟩, ⟨f0, f1, f2, f6, f7, f8, f9⟩, rfl⟩
  obtain ⟨t1, y1⟩ := S0.rd
  have hk7' := Rp.ent_lt x7
  have hww : IntKind.i64.wrap ((j : Int) + 1) = (j : Int) + 1 := wrap_i64 (by omega)
  by_cases hc : j < n.toNat ∧ bad3 = false
  · obtain ⟨hc1, rfl⟩ := hc
    have hd1 : d ≠ 0 := fun h => by have := hd0 h; omega
    have ih' : ReadOk E ((d : Int) - 1) F := ih.resolve_left hd1
    have w1 : binA .lss .no (.pv (.int .i64 (j : Int))) (.pv (.int .i64 n)) = some (.pv (.bool true)) := by simp [binA, intBin]; omega
    have hwd : IntKind.i64.wrap ((d : Int) - 1) = (d : Int) - 1 := wrap_i64 (by omega)
    have w2 : binA .sub .no (.pv (.int .i64 (d : Int))) (.pv (.int .i64 1)) = some (.pv (.int .i64 ((d : Int) - 1))) := by simp [binA, intBin, hwd]
    have w3 : binA .add .no (.pv (.int .i64 (j : Int))) (.pv (.int .i64 1)) = some (.pv (.int .i64 ((j : Int) + 1))) := by simp [binA, intBin, hww]
    obtain ⟨m, hm⟩ : ∃ m, n.toNat - j = m + 1 := ⟨n.toNat - j - 1, by omega⟩
    rw [hm] at hru
    simp only [runV, Bool.false_eq_true, if_false] at hru
    obtain ⟨a1, a2, a3⟩ := hF left2 bs3 (hl2 rfl) hb3
    obtain ⟨t2, y2⟩ := S0.box
    have hms := ih'.masked (t := t2) S0.rd y2 hb3 (hl2 rfl) hl3 hne
    have hre := reach_two2 (d := (d : Int) - 1) S0.rd y2 hne
    have hrl := rd_lt S0.rd
    have hll := Rp.ent_lt y2
    generalize F left2 bs3 false = T at hru a1 a2 a3 hms
    obtain ⟨x, left4, bs4, bad4⟩ := T
    dsimp only at hru a1 a2 a3 hms
    (repeat' first
    | apply X.retS
    | apply X.skipS
    | apply X.skipB
    | apply X.skipL
    | (apply X.exitS; first | apply X.here | (refine X.out (by decide) ?_; apply X.here))
    | apply X.blockS
    | (apply X.condQ rfl; (focus (simp only [sub, subO, subL, subM, sub3, sub2, fk_some, fk_none, fk_arg0, fk_argS, fk_argN, fk_map0, fk_mapS, fk_mapN, reduceIte, Nat.reduceEqDiff, Nat.reduceAdd, f0, f1, f2, f6, f7, f8, f9]; with_reducible rfl)); all_goals (intro hbr; first | exact absurd hbr (by decide) | ((try rw [hbr]); (try simp at hbr))))
    | apply X.stepZ
    | (apply X.stepQ rfl; (focus (simp only [sub, subO, subL, subM, sub3, sub2, fk_some, fk_none, fk_arg0, fk_argS, fk_argN, fk_map0, fk_mapS, fk_mapN, reduceIte, Nat.reduceEqDiff, Nat.reduceAdd, f0, f1, f2, f6, f7, f8, f9]; with_reducible rfl)); (focus (simp [-getElem?_pos, -binA, w1, y1]; with_reducible (first | rfl | exact ⟨rfl, rfl⟩))))
    | (apply X.stepNQ rfl; (focus (simp only [sub, subO, subL, subM, sub3, sub2, fk_some, fk_none, fk_arg0, fk_argS, fk_argN, fk_map0, fk_mapS, fk_mapN, reduceIte, Nat.reduceEqDiff, Nat.reduceAdd, f0, f1, f2, f6, f7, f8, f9]; with_reducible rfl)))
    | ((first | apply X.stepGtQ rfl | apply X.stepGfQ rfl); (focus (simp only [sub, subO, subL, subM, sub3, sub2, fk_some, fk_none, fk_arg0, fk_argS, fk_argN, fk_map0, fk_mapS, fk_mapN, reduceIte, Nat.reduceEqDiff, Nat.reduceAdd, f0, f1, f2, f6, f7, f8, f9]; with_reducible rfl)); all_goals (intro hbr; first | exact absurd hbr (by decide) | ((try rw [hbr]); (try simp at hbr)))))
    refine X.drawC [57] [k7] rfl ?_
    (repeat' first
    | apply XC.nil
    | (apply XC.calmQ rfl rfl rfl; (focus (simp only [sub, subO, subL, subM, sub3, sub2, fk_some, fk_none, fk_arg0, fk_argS, fk_argN, fk_map0, fk_mapS, fk_mapN, reduceIte, Nat.reduceEqDiff, Nat.reduceAdd, f0, f1, f2, f6, f7, f8, f9]; with_reducible rfl)); (focus (simp [-getElem?_pos, -binA, x7, w2]; done)); (focus (simp [-getElem?_pos, -binA, x7, w2]; with_reducible (first | rfl | exact ⟨rfl, rfl⟩))))
    | (apply XC.callP rfl; (focus (simp only [sub, subO, subL, subM, sub3, sub2, fk_some, fk_none, fk_arg0, fk_argS, fk_argN, fk_map0, fk_mapS, fk_mapN, reduceIte, Nat.reduceEqDiff, Nat.reduceAdd, f0, f1, f2, f6, f7, f8, f9]; simp; with_reducible rfl)); (focus (simp; with_reducible rfl)); (focus (simp [-getElem?_pos, -binA, x7, w2]; done)); (focus (simp [-getElem?_pos, -binA, x7, w2]; with_reducible rfl)))
    | (apply XC.convP rfl; (focus (simp only [sub, subO, subL, subM, sub3, sub2, fk_some, fk_none, fk_arg0, fk_argS, fk_argN, fk_map0, fk_mapS, fk_mapN, reduceIte, Nat.reduceEqDiff, Nat.reduceAdd, f0, f1, f2, f6, f7, f8, f9]; with_reducible rfl)); (focus (simp [foot, oIds, V.ids]; done)); (focus (simp [-getElem?_pos, -binA, x7, w2]; with_reducible (first | rfl | exact ⟨rfl, rfl⟩))))
    | (apply XC.stepNQ rfl; (focus (simp only [sub, subO, subL, subM, sub3, sub2, fk_some, fk_none, fk_arg0, fk_argS, fk_argN, fk_map0, fk_mapS, fk_mapN, reduceIte, Nat.reduceEqDiff, Nat.reduceAdd, f0, f1, f2, f6, f7, f8, f9]; with_reducible rfl)))
    | ((first | apply XC.stepGtQ rfl | apply XC.stepGfQ rfl); (focus (simp only [sub, subO, subL, subM, sub3, sub2, fk_some, fk_none, fk_arg0, fk_argS, fk_argN, fk_map0, fk_mapS, fk_mapN, reduceIte, Nat.reduceEqDiff, Nat.reduceAdd, f0, f1, f2, f6, f7, f8, f9]; with_reducible rfl)); all_goals (intro hbr; first | exact absurd hbr (by decide) | ((try rw [hbr]); (try simp at hbr))))
    | (apply XC.makeQ rfl rfl rfl rfl; (focus (simp only [sub, subO, subL, subM, sub3, sub2, fk_some, fk_none, fk_arg0, fk_argS, fk_argN, fk_map0, fk_mapS, fk_mapN, reduceIte, Nat.reduceEqDiff, Nat.reduceAdd, f0, f1, f2, f6, f7, f8, f9]; with_reducible rfl)); (focus rfl); (focus (simp; done)); (focus (first | (simp; done) | (simp; omega))); (focus (simp [-getElem?_pos, -binA, x7, w2]; with_reducible (first | rfl | exact ⟨rfl, rfl⟩))); (focus (simp; done)); (focus (simp [-getElem?_pos, -binA, x7, w2]; with_reducible rfl))))
    refine XC.callX (P := fun r h' => VOut hh.length h' r x ∧ VS hh ri li left4 bs4 bad4 h') rfl (by simp only [sub, subO, subL, subM, sub3, sub2, fk_some, fk_none, fk_arg0, fk_argS, fk_argN, fk_map0, fk_mapS, fk_mapN, reduceIte, Nat.reduceEqDiff, Nat.reduceAdd, f0, f1, f2, f6, f7, f8, f9]; all_goals (first | with_reducible rfl | (simp; done) | (simp <;> with_reducible rfl))) hre HH.value.raw HH.value.ext (by intro x hx; simp at hx ⊢; omega) (by intro x hx; simp at hx; omega) (by intro x hx; simp at hx; omega) hms ?_
    rintro r h4 ⟨⟨L2, c1, c2⟩, S4⟩
    have z6 : ent h4 h.length = _ := (S4.but.old _ (Rp.ent_lt x6) (by simp; omega)).trans x6
    have z7 : ent h4 k7 = _ := (S4.but.old _ hk7' (by simp; omega)).trans x7
    have W4 : Rw h.length h4 L (acc.map encV) := W0.but S4.but (by intro i hi; simp at hi; rcases hi with rfl | rfl <;> simp [y1, y2])
    have hl4 := S4.but.len
    have hbo := S0.but.trans S4.but
    obtain ⟨t3, y3⟩ := S4.box
    obtain ⟨t4, y4⟩ := S4.rd
    have hcell : L2.isCell = true := c2.cell
    have hwk : weak L2 = some (.sl (x.l.map encV)) := c2.weak
    clear hms hre W0 c2
    have hbs : opA E (limP E) (limR E) [] (mask [] h4) (.buildSl true false 3 [.pv (.int .i64 0), .pv (.int .u8 0), .nils] 1 [(0, .val r)]) = some (.slx [.agg [.int .i64 x.k, .int .u8 x.b, .sl (x.l.map encV)]], mask [] h4) := by
      have hfi : fillA [.pv (.int .i64 0), .pv (.int .u8 0), .nils] [(0, 3, r)] = some [.pv (.int .i64 x.k), .pv (.int .u8 x.b), L2] := by
        have hall : List.all [V.pv (.int .i64 x.k), .pv (.int .u8 x.b), L2] V.isCell = true := by simp only [List.all_cons, hcell, List.all_nil, Bool.and_true]; rfl
        simp only [fillA, c1]
        rw [if_pos ⟨rfl, by simp, hall⟩]
        rfl
      have e : opA E (limP E) (limR E) [] (mask [] h4) (.buildSl true false 3 [.pv (.int .i64 0), .pv (.int .u8 0), .nils] 1 [(0, .val r)]) =
          (match fillA [.pv (.int .i64 0), .pv (.int .u8 0), .nils] [(0, 3, r)] with
            | some cs => (match weak.weakL cs with
              | some ps => some (.slx ((chunks 3 1 ps).map (mkPV true)), mask [] h4)
              | none => none)
            | none => none) := rfl
      rw [e, hfi]
      simp only [weak.weakL, weak, hwk]
      rfl
    refine XC.makeQ (h1 := mask [] h4) rfl rfl rfl rfl (by simp only [sub, subO, subL, subM, sub3, sub2, fk_some, fk_none, fk_arg0, fk_argS, fk_argN, fk_map0, fk_mapS, fk_mapN, reduceIte, Nat.reduceEqDiff, Nat.reduceAdd]) rfl rfl (by simp; omega) hbs (by simp [length_mask]) (by rw [merge_mask]) ?_
    have hap := W4.append_masked (E := E) x (by omega)
    refine XC.growQ (F := L.ids) (vop := .append true false 3 40 24 (.val L) (.val (.slx [.agg [.int .i64 x.k, .int .u8 x.b, .sl (x.l.map encV)]]))) rfl rfl rfl (by simp only [sub, subO, subL, subM, sub3, sub2, fk_some, fk_none, fk_arg0, fk_argS, fk_argN, fk_map0, fk_mapS, fk_mapN, reduceIte, Nat.reduceEqDiff, Nat.reduceAdd]) (by show L.ids ++ [] = _; rw [List.append_nil]) ?_ (by simp; omega) (fun x hx => Ab.ent_lt (by rw [(W4.ids x hx).1]; simp)) hap (by simp [length_kill, length_mask]) (kill_mask W4) ?_
    · rw [List.all_eq_true]
      intro y hy
      have := (W4.ids y hy).1
      have : y ≠ k7 := by rintro rfl; rw [z7] at this; cases this
      simpa using this
    have u7 : ent (kill h4 L ++ [.tok]) k7 = _ := (W4.keep (by rw [z7]; simp) (by omega)).trans z7
    have u6 : ent (kill h4 L ++ [.tok]) h.length = _ := (W4.keep (by rw [z6]; simp) (Rp.ent_lt z6)).trans z6
    have u3 : ent (kill h4 L ++ [.tok]) li = _ := (W4.keep (by rw [y3]; simp) (by omega)).trans y3
    have u4 : ent (kill h4 L ++ [.tok]) ri = _ := (W4.keep (by rw [y4]; simp) (by omega)).trans y4
    have ub := W4.butK (l := [.tok]) hbo (Nat.le_refl _)
    have W5 : Rw h.length (kill h4 L ++ [.tok]) (.slt ((acc ++ [x]).map encV) h4.length) ((acc ++ [x]).map encV) := Rw.done (by simp) rfl (by omega)
    have hH : h4.length < (kill h4 L ++ [Ent.tok]).length := by simp [length_kill]
    clear hap hbs W4 z6 z7 y3 y4 hbo S4
    generalize kill h4 L ++ [Ent.tok] = H at u7 u6 u3 u4 ub W5 hH ⊢
    (repeat' first
    | apply XC.nil
    | (apply XC.calmQ rfl rfl rfl; (focus (simp only [sub, subO, subL, subM, sub3, sub2, fk_some, fk_none, fk_arg0, fk_argS, fk_argN, fk_map0, fk_mapS, fk_mapN, reduceIte, Nat.reduceEqDiff, Nat.reduceAdd, f0, f1, f2, f6, f7, f8, f9]; with_reducible rfl)); (focus (simp [-getElem?_pos, u7]; done)); (focus (simp [-getElem?_pos, u7]; with_reducible (first | rfl | exact ⟨rfl, rfl⟩))))
    | (apply XC.callP rfl; (focus (simp only [sub, subO, subL, subM, sub3, sub2, fk_some, fk_none, fk_arg0, fk_argS, fk_argN, fk_map0, fk_mapS, fk_mapN, reduceIte, Nat.reduceEqDiff, Nat.reduceAdd, f0, f1, f2, f6, f7, f8, f9]; simp; with_reducible rfl)); (focus (simp; with_reducible rfl)); (focus (simp [-getElem?_pos, u7]; done)); (focus (simp [-getElem?_pos, u7]; with_reducible rfl)))
    | (apply XC.convP rfl; (focus (simp only [sub, subO, subL, subM, sub3, sub2, fk_some, fk_none, fk_arg0, fk_argS, fk_argN, fk_map0, fk_mapS, fk_mapN, reduceIte, Nat.reduceEqDiff, Nat.reduceAdd, f0, f1, f2, f6, f7, f8, f9]; with_reducible rfl)); (focus (simp [foot, oIds, V.ids]; done)); (focus (simp [-getElem?_pos, u7]; with_reducible (first | rfl | exact ⟨rfl, rfl⟩))))
    | (apply XC.stepNQ rfl; (focus (simp only [sub, subO, subL, subM, sub3, sub2, fk_some, fk_none, fk_arg0, fk_argS, fk_argN, fk_map0, fk_mapS, fk_mapN, reduceIte, Nat.reduceEqDiff, Nat.reduceAdd, f0, f1, f2, f6, f7, f8, f9]; with_reducible rfl)))
    | ((first | apply XC.stepGtQ rfl | apply XC.stepGfQ rfl); (focus (simp only [sub, subO, subL, subM, sub3, sub2, fk_some, fk_none, fk_arg0, fk_argS, fk_argN, fk_map0, fk_mapS, fk_mapN, reduceIte, Nat.reduceEqDiff, Nat.reduceAdd, f0, f1, f2, f6, f7, f8, f9]; with_reducible rfl)); all_goals (intro hbr; first | exact absurd hbr (by decide) | ((try rw [hbr]); (try simp at hbr))))
    | (apply XC.makeQ rfl rfl rfl rfl; (focus (simp only [sub, subO, subL, subM, sub3, sub2, fk_some, fk_none, fk_arg0, fk_argS, fk_argN, fk_map0, fk_mapS, fk_mapN, reduceIte, Nat.reduceEqDiff, Nat.reduceAdd, f0, f1, f2, f6, f7, f8, f9]; with_reducible rfl)); (focus rfl); (focus (simp; done)); (focus (first | (simp; done) | (simp; omega))); (focus (simp [-getElem?_pos, u7]; with_reducible (first | rfl | exact ⟨rfl, rfl⟩))); (focus (simp; done)); (focus (simp [-getElem?_pos, u7]; with_reducible rfl))))
    have hkH : k7 < H.length := by omega
    have um : ent (mask [k7] H) k7 = _ := (ent_mask_in (by simp)).trans u7
    have hst : opA E (limP E) (limR E) [] (mask [k7] H) (.store 1 (.val (.ptr k7 2)) (.val (.slt ((acc ++ [x]).map encV) h4.length))) = some (.tup [], (mask [k7] H).set k7 (.blk [.pv (.int .i64 k), .pv (.int .u8 c), .slt ((acc ++ [x]).map encV) h4.length] ty7)) := by
      simp [opA, um, St.eval]
    refine XC.loudQ (F := [k7]) (vop := .store 1 (.val (.ptr k7 2)) (.val (.slt ((acc ++ [x]).map encV) h4.length))) rfl rfl (by simp only [sub, subO, subL, subM, sub3, sub2, fk_some, fk_none, fk_arg0, fk_argS, fk_argN, fk_map0, fk_mapS, fk_mapN, reduceIte, Nat.reduceEqDiff, Nat.reduceAdd, f7]) rfl hst (by simp [length_mask]) (merge_mask_set (by simp)) ?_
    apply XC.nil
    (repeat' first
    | apply X.retS
    | apply X.skipS
    | apply X.skipB
    | apply X.skipL
    | (apply X.exitS; first | apply X.here | (refine X.out (by decide) ?_; apply X.here))
    | apply X.blockS
    | (apply X.condQ rfl; (focus (simp only [sub, subO, subL, subM, sub3, sub2, fk_some, fk_none, fk_arg0, fk_argS, fk_argN, fk_map0, fk_mapS, fk_mapN, reduceIte, Nat.reduceEqDiff, Nat.reduceAdd, f0, f1, f2, f6, f7, f8, f9]; with_reducible rfl)); all_goals (intro hbr; first | exact absurd hbr (by decide) | ((try rw [hbr]); (try simp at hbr))))
    | apply X.stepZ
    | (apply X.stepQ rfl; (focus (simp only [sub, subO, subL, subM, sub3, sub2, fk_some, fk_none, fk_arg0, fk_argS, fk_argN, fk_map0, fk_mapS, fk_mapN, reduceIte, Nat.reduceEqDiff, Nat.reduceAdd, f0, f1, f2, f6, f7, f8, f9]; with_reducible rfl)); (focus (simp [-getElem?_pos, -binA, w3]; with_reducible (first | rfl | exact ⟨rfl, rfl⟩))))
    | (apply X.stepNQ rfl; (focus (simp only [sub, subO, subL, subM, sub3, sub2, fk_some, fk_none, fk_arg0, fk_argS, fk_argN, fk_map0, fk_mapS, fk_mapN, reduceIte, Nat.reduceEqDiff, Nat.reduceAdd, f0, f1, f2, f6, f7, f8, f9]; with_reducible rfl)))
    | ((first | apply X.stepGtQ rfl | apply X.stepGfQ rfl); (focus (simp only [sub, subO, subL, subM, sub3, sub2, fk_some, fk_none, fk_arg0, fk_argS, fk_argN, fk_map0, fk_mapS, fk_mapN, reduceIte, Nat.reduceEqDiff, Nat.reduceAdd, f0, f1, f2, f6, f7, f8, f9]; with_reducible rfl)); all_goals (intro hbr; first | exact absurd hbr (by decide) | ((try rw [hbr]); (try simp at hbr)))))
    refine ⟨hc1, _, .slt ((acc ++ [x]).map encV) h4.length, acc ++ [x], left4, bs4, bad4, _, ⟨⟨⟨t4, ?_⟩, ⟨t3, ?_⟩, ⟨by simp; exact ub.len, fun i hi hn => ?_⟩, hri, hli, hne⟩, ?_, ⟨ty7, by simp [ent, hkH]⟩, ?_, a3, a2, by omega, ?_, by simp [hal]⟩, by simp [f0, f1, f2, f6, f7, f8], rfl⟩
    · rw [ent_set_ne (by omega)]; exact u4
    · rw [ent_set_ne (by omega)]; exact u3
    · rw [ent_set_ne (by omega)]; exact ub.old i hi hn
    · rw [ent_set_ne (by omega)]; exact u6
    · exact W5.but (S := [k7]) (But.set (by simp)) (by intro i hi; simp at hi; subst hi; rw [u7]; simp)
    · rw [← hru]
      congr 1
      omega
  · have hfin : runV F (n.toNat - j) acc left2 bs3 bad3 = (acc, left2, bs3, bad3) := by
      cases hm : n.toNat - j with
      | zero => rfl
      | succ m =>
        have : bad3 = true := by
          cases bad3 with
          | true => rfl
          | false => exact absurd ⟨by omega, rfl⟩ hc
        simp [runV, this]
    rw [hfin] at hru
    subst hru
    have S6 := fun B => S0.up (B := B) (Nat.le_refl h.length)
    have W6 := fun B => W0.but (S := [h.length]) (But.set (i := h.length) (e := B) (by simp)) (by intro i hi; simp at hi; subst hi; rw [x6]; simp)
    have hh6 := Rp.ent_lt x6
    have hend : ∀ hh', hh' = hh.set h.length (.blk [.pv (.int .i64 k), .pv (.int .u8 c), L] (some 24)) → VOut h.length hh' (.agg [.pv (.int .i64 k), .pv (.int .u8 c), L]) (.mk k c acc) ∧ VS h ri li left2 bs3 bad3 hh' := fun hh' he => by
      subst he
      exact ⟨⟨L, rfl, W6 _⟩, S6 _⟩
    clear S6 W6 S0 hfin
    have hw : binA .lss .no (.pv (.int .i64 (j : Int))) (.pv (.int .i64 n)) = some (.pv (.bool false)) ∨ (binA .lss .no (.pv (.int .i64 (j : Int))) (.pv (.int .i64 n)) = some (.pv (.bool true)) ∧ bad3 = true) := by
      by_cases h1 : j < n.toNat
      · refine .inr ⟨by simp [binA, intBin]; omega, ?_⟩
        cases bad3 with
        | true => rfl
        | false => exact absurd ⟨h1, rfl⟩ hc
      · exact .inl (by simp [binA, intBin]; omega)
    clear hc ih hF
    rcases hw with w1 | ⟨w1, rfl⟩
    · rcases W0 with ⟨_, rfl⟩ | rfl | ⟨_, tok, rfl, _⟩
      · (repeat' first
    | apply X.retS
    | apply X.skipS
    | apply X.skipB
    | apply X.skipL
    | (apply X.exitS; first | apply X.here | (refine X.out (by decide) ?_; apply X.here))
    | apply X.blockS
    | (apply X.condQ rfl; (focus (simp only [sub, subO, subL, subM, sub3, sub2, fk_some, fk_none, fk_arg0, fk_argS, fk_argN, fk_map0, fk_mapS, fk_mapN, reduceIte, Nat.reduceEqDiff, Nat.reduceAdd, f0, f1, f2, f6, f7, f8, f9]; with_reducible rfl)); all_goals (intro hbr; first | exact absurd hbr (by decide) | ((try rw [hbr]); (try simp at hbr))))
    | apply X.stepZ
    | (apply X.stepQ rfl; (focus (simp only [sub, subO, subL, subM, sub3, sub2, fk_some, fk_none, fk_arg0, fk_argS, fk_argN, fk_map0, fk_mapS, fk_mapN, reduceIte, Nat.reduceEqDiff, Nat.reduceAdd, f0, f1, f2, f6, f7, f8, f9]; with_reducible rfl)); (focus (simp [-getElem?_pos, -binA, w1, y1, x6, x7]; with_reducible (first | rfl | exact ⟨rfl, rfl⟩))))
    | (apply X.stepNQ rfl; (focus (simp only [sub, subO, subL, subM, sub3, sub2, fk_some, fk_none, fk_arg0, fk_argS, fk_argN, fk_map0, fk_mapS, fk_mapN, reduceIte, Nat.reduceEqDiff, Nat.reduceAdd, f0, f1, f2, f6, f7, f8, f9]; with_reducible rfl)))
    | ((first | apply X.stepGtQ rfl | apply X.stepGfQ rfl); (focus (simp only [sub, subO, subL, subM, sub3, sub2, fk_some, fk_none, fk_arg0, fk_argS, fk_argN, fk_map0, fk_mapS, fk_mapN, reduceIte, Nat.reduceEqDiff, Nat.reduceAdd, f0, f1, f2, f6, f7, f8, f9]; with_reducible rfl)); all_goals (intro hbr; first | exact absurd hbr (by decide) | ((try rw [hbr]); (try simp at hbr)))))
        all_goals exact FinE.retQ (us := [.agg [.pv (.int .i64 k), .pv (.int .u8 c), .nils]]) rfl (by simp [resS, f6, ent_set hh6, pures]) (hend _ rfl)
      · (repeat' first
    | apply X.retS
    | apply X.skipS
    | apply X.skipB
    | apply X.skipL
    | (apply X.exitS; first | apply X.here | (refine X.out (by decide) ?_; apply X.here))
    | apply X.blockS
    | (apply X.condQ rfl; (focus (simp only [sub, subO, subL, subM, sub3, sub2, fk_some, fk_none, fk_arg0, fk_argS, fk_argN, fk_map0, fk_mapS, fk_mapN, reduceIte, Nat.reduceEqDiff, Nat.reduceAdd, f0, f1, f2, f6, f7, f8, f9]; with_reducible rfl)); all_goals (intro hbr; first | exact absurd hbr (by decide) | ((try rw [hbr]); (try simp at hbr))))
    | apply X.stepZ
    | (apply X.stepQ rfl; (focus (simp only [sub, subO, subL, subM, sub3, sub2, fk_some, fk_none, fk_arg0, fk_argS, fk_argN, fk_map0, fk_mapS, fk_mapN, reduceIte, Nat.reduceEqDiff, Nat.reduceAdd, f0, f1, f2, f6, f7, f8, f9]; with_reducible rfl)); (focus (simp [-getElem?_pos, -binA, w1, y1, x6, x7]; with_reducible (first | rfl | exact ⟨rfl, rfl⟩))))
    | (apply X.stepNQ rfl; (focus (simp only [sub, subO, subL, subM, sub3, sub2, fk_some, fk_none, fk_arg0, fk_argS, fk_argN, fk_map0, fk_mapS, fk_mapN, reduceIte, Nat.reduceEqDiff, Nat.reduceAdd, f0, f1, f2, f6, f7, f8, f9]; with_reducible rfl)))
    | ((first | apply X.stepGtQ rfl | apply X.stepGfQ rfl); (focus (simp only [sub, subO, subL, subM, sub3, sub2, fk_some, fk_none, fk_arg0, fk_argS, fk_argN, fk_map0, fk_mapS, fk_mapN, reduceIte, Nat.reduceEqDiff, Nat.reduceAdd, f0, f1, f2, f6, f7, f8, f9]; with_reducible rfl)); all_goals (intro hbr; first | exact absurd hbr (by decide) | ((try rw [hbr]); (try simp at hbr)))))
        all_goals exact FinE.retQ (us := [.agg [.pv (.int .i64 k), .pv (.int .u8 c), .slx (acc.map encV)]]) rfl (by simp [resS, f6, ent_set hh6, pures]) (hend _ rfl)
      · (repeat' first
    | apply X.retS
    | apply X.skipS
    | apply X.skipB
    | apply X.skipL
    | (apply X.exitS; first | apply X.here | (refine X.out (by decide) ?_; apply X.here))
    | apply X.blockS
    | (apply X.condQ rfl; (focus (simp only [sub, subO, subL, subM, sub3, sub2, fk_some, fk_none, fk_arg0, fk_argS, fk_argN, fk_map0, fk_mapS, fk_mapN, reduceIte, Nat.reduceEqDiff, Nat.reduceAdd, f0, f1, f2, f6, f7, f8, f9]; with_reducible rfl)); all_goals (intro hbr; first | exact absurd hbr (by decide) | ((try rw [hbr]); (try simp at hbr))))
    | apply X.stepZ
    | (apply X.stepQ rfl; (focus (simp only [sub, subO, subL, subM, sub3, sub2, fk_some, fk_none, fk_arg0, fk_argS, fk_argN, fk_map0, fk_mapS, fk_mapN, reduceIte, Nat.reduceEqDiff, Nat.reduceAdd, f0, f1, f2, f6, f7, f8, f9]; with_reducible rfl)); (focus (simp [-getElem?_pos, -binA, w1, y1, x6, x7]; with_reducible (first | rfl | exact ⟨rfl, rfl⟩))))
    | (apply X.stepNQ rfl; (focus (simp only [sub, subO, subL, subM, sub3, sub2, fk_some, fk_none, fk_arg0, fk_argS, fk_argN, fk_map0, fk_mapS, fk_mapN, reduceIte, Nat.reduceEqDiff, Nat.reduceAdd, f0, f1, f2, f6, f7, f8, f9]; with_reducible rfl)))
    | ((first | apply X.stepGtQ rfl | apply X.stepGfQ rfl); (focus (simp only [sub, subO, subL, subM, sub3, sub2, fk_some, fk_none, fk_arg0, fk_argS, fk_argN, fk_map0, fk_mapS, fk_mapN, reduceIte, Nat.reduceEqDiff, Nat.reduceAdd, f0, f1, f2, f6, f7, f8, f9]; with_reducible rfl)); all_goals (intro hbr; first | exact absurd hbr (by decide) | ((try rw [hbr]); (try simp at hbr)))))
        all_goals exact FinE.retQ (us := [.agg [.pv (.int .i64 k), .pv (.int .u8 c), .slt (acc.map encV) tok]]) rfl (by simp [resS, f6, ent_set hh6, pures]) (hend _ rfl)
    · rcases W0 with ⟨_, rfl⟩ | rfl | ⟨_, tok, rfl, _⟩
      · (repeat' first
    | apply X.retS
    | apply X.skipS
    | apply X.skipB
    | apply X.skipL
    | (apply X.exitS; first | apply X.here | (refine X.out (by decide) ?_; apply X.here))
    | apply X.blockS
    | (apply X.condQ rfl; (focus (simp only [sub, subO, subL, subM, sub3, sub2, fk_some, fk_none, fk_arg0, fk_argS, fk_argN, fk_map0, fk_mapS, fk_mapN, reduceIte, Nat.reduceEqDiff, Nat.reduceAdd, f0, f1, f2, f6, f7, f8, f9]; with_reducible rfl)); all_goals (intro hbr; first | exact absurd hbr (by decide) | ((try rw [hbr]); (try simp at hbr))))
    | apply X.stepZ
    | (apply X.stepQ rfl; (focus (simp only [sub, subO, subL, subM, sub3, sub2, fk_some, fk_none, fk_arg0, fk_argS, fk_argN, fk_map0, fk_mapS, fk_mapN, reduceIte, Nat.reduceEqDiff, Nat.reduceAdd, f0, f1, f2, f6, f7, f8, f9]; with_reducible rfl)); (focus (simp [-getElem?_pos, -binA, w1, y1, x6, x7]; with_reducible (first | rfl | exact ⟨rfl, rfl⟩))))
    | (apply X.stepNQ rfl; (focus (simp only [sub, subO, subL, subM, sub3, sub2, fk_some, fk_none, fk_arg0, fk_argS, fk_argN, fk_map0, fk_mapS, fk_mapN, reduceIte, Nat.reduceEqDiff, Nat.reduceAdd, f0, f1, f2, f6, f7, f8, f9]; with_reducible rfl)))
    | ((first | apply X.stepGtQ rfl | apply X.stepGfQ rfl); (focus (simp only [sub, subO, subL, subM, sub3, sub2, fk_some, fk_none, fk_arg0, fk_argS, fk_argN, fk_map0, fk_mapS, fk_mapN, reduceIte, Nat.reduceEqDiff, Nat.reduceAdd, f0, f1, f2, f6, f7, f8, f9]; with_reducible rfl)); all_goals (intro hbr; first | exact absurd hbr (by decide) | ((try rw [hbr]); (try simp at hbr)))))
        all_goals exact FinE.retQ (us := [.agg [.pv (.int .i64 k), .pv (.int .u8 c), .nils]]) rfl (by simp [resS, f6, ent_set hh6, pures]) (hend _ rfl)
      · (repeat' first
    | apply X.retS
    | apply X.skipS
    | apply X.skipB
    | apply X.skipL
    | (apply X.exitS; first | apply X.here | (refine X.out (by decide) ?_; apply X.here))
    | apply X.blockS
    | (apply X.condQ rfl; (focus (simp only [sub, subO, subL, subM, sub3, sub2, fk_some, fk_none, fk_arg0, fk_argS, fk_argN, fk_map0, fk_mapS, fk_mapN, reduceIte, Nat.reduceEqDiff, Nat.reduceAdd, f0, f1, f2, f6, f7, f8, f9]; with_reducible rfl)); all_goals (intro hbr; first | exact absurd hbr (by decide) | ((try rw [hbr]); (try simp at hbr))))
    | apply X.stepZ
    | (apply X.stepQ rfl; (focus (simp only [sub, subO, subL, subM, sub3, sub2, fk_some, fk_none, fk_arg0, fk_argS, fk_argN, fk_map0, fk_mapS, fk_mapN, reduceIte, Nat.reduceEqDiff, Nat.reduceAdd, f0, f1, f2, f6, f7, f8, f9]; with_reducible rfl)); (focus (simp [-getElem?_pos, -binA, w1, y1, x6, x7]; with_reducible (first | rfl | exact ⟨rfl, rfl⟩))))
    | (apply X.stepNQ rfl; (focus (simp only [sub, subO, subL, subM, sub3, sub2, fk_some, fk_none, fk_arg0, fk_argS, fk_argN, fk_map0, fk_mapS, fk_mapN, reduceIte, Nat.reduceEqDiff, Nat.reduceAdd, f0, f1, f2, f6, f7, f8, f9]; with_reducible rfl)))
    | ((first | apply X.stepGtQ rfl | apply X.stepGfQ rfl); (focus (simp only [sub, subO, subL, subM, sub3, sub2, fk_some, fk_none, fk_arg0, fk_argS, fk_argN, fk_map0, fk_mapS, fk_mapN, reduceIte, Nat.reduceEqDiff, Nat.reduceAdd, f0, f1, f2, f6, f7, f8, f9]; with_reducible rfl)); all_goals (intro hbr; first | exact absurd hbr (by decide) | ((try rw [hbr]); (try simp at hbr)))))
        all_goals exact FinE.retQ (us := [.agg [.pv (.int .i64 k), .pv (.int .u8 c), .slx (acc.map encV)]]) rfl (by simp [resS, f6, ent_set hh6, pures]) (hend _ rfl)
      · (repeat' first
    | apply X.retS
    | apply X.skipS
    | apply X.skipB
    | apply X.skipL
    | (apply X.exitS; first | apply X.here | (refine X.out (by decide) ?_; apply X.here))
    | apply X.blockS
    | (apply X.condQ rfl; (focus (simp only [sub, subO, subL, subM, sub3, sub2, fk_some, fk_none, fk_arg0, fk_argS, fk_argN, fk_map0, fk_mapS, fk_mapN, reduceIte, Nat.reduceEqDiff, Nat.reduceAdd, f0, f1, f2, f6, f7, f8, f9]; with_reducible rfl)); all_goals (intro hbr; first | exact absurd hbr (by decide) | ((try rw [hbr]); (try simp at hbr))))
    | apply X.stepZ
    | (apply X.stepQ rfl; (focus (simp only [sub, subO, subL, subM, sub3, sub2, fk_some, fk_none, fk_arg0, fk_argS, fk_argN, fk_map0, fk_mapS, fk_mapN, reduceIte, Nat.reduceEqDiff, Nat.reduceAdd, f0, f1, f2, f6, f7, f8, f9]; with_reducible rfl)); (focus (simp [-getElem?_pos, -binA, w1, y1, x6, x7]; with_reducible (first | rfl | exact ⟨rfl, rfl⟩))))
    | (apply X.stepNQ rfl; (focus (simp only [sub, subO, subL, subM, sub3, sub2, fk_some, fk_none, fk_arg0, fk_argS, fk_argN, fk_map0, fk_mapS, fk_mapN, reduceIte, Nat.reduceEqDiff, Nat.reduceAdd, f0, f1, f2, f6, f7, f8, f9]; with_reducible rfl)))
    | ((first | apply X.stepGtQ rfl | apply X.stepGfQ rfl); (focus (simp only [sub, subO, subL, subM, sub3, sub2, fk_some, fk_none, fk_arg0, fk_argS, fk_argN, fk_map0, fk_mapS, fk_mapN, reduceIte, Nat.reduceEqDiff, Nat.reduceAdd, f0, f1, f2, f6, f7, f8, f9]; with_reducible rfl)); all_goals (intro hbr; first | exact absurd hbr (by decide) | ((try rw [hbr]); (try simp at hbr)))))
        all_goals exact FinE.retQ (us := [.agg [.pv (.int .i64 k), .pv (.int .u8 c), .slt (acc.map encV) tok]]) rfl (by simp [resS, f6, ent_set hh6, pures]) (hend _ rfl)

theorem ReadOk.congr {d : Int} {f g : Int → List Int → Bool → Va × Int × List Int × Bool} (e : ∀ l b x, f l b x = g l b x) (h : ReadOk E d f) : ReadOk E d g := by
  have : f = g := by funext l b x; exact e l b x
  rw [← this]
  exact h
theorem value_ok (HH : HasW E) : ∀ d : Nat, d ≤ 1000 → ReadOk E d (valT d)
  | 0, _ => ReadOk.congr (fun l b x => by simp [headT_bad, runV, valT]) (value_body HH 0 (by omega) (fun left bs _ => (.mk 0 0 [], left, bs, true)) (fun left bs h1 h2 => ⟨Int.le_refl _, fun h => (by cases h), h2⟩) (.inl rfl))
  | d + 1, hd => ReadOk.congr (fun l b x => by simp [valT]) (value_body HH (d + 1) hd (valT d) (fun left bs h1 h2 => val_left d left bs h1 h2) (.inr (by have := value_ok HH d (by omega); simpa using this)))
end Rp
