/- The translation of an operation is right. -/
import Derived.Test.YtcggaaheaahinaaDoorAbOpAll
namespace Ab
open Go


variable {P : Program} {m : Imm} {ρ : Rho}
variable {a : Act} {ts : List V} {h : Heap} {w : World} {o : Oper} {E : Env} {pure : FuncId → List PV → Option (List PV)} {raw : FuncId → List V → Heap → Option (V × Heap)}

theorem convA_int {k : IntKind} {x v : V} {h : Heap} (e : convA (.int k) x h = some v) : ∃ k1 n, x = .pv (.int k1 n) ∧ v = .pv (.int k (k.wrap n)) := by
  rcases x with p | _ | _ | _ | _ | _ | _ | _ | _
  · cases p <;> simp [convA] at e
    exact ⟨_, _, rfl, e.symm⟩
  all_goals simp [convA] at e

theorem convA_flt {k : FloatKind} {x v : V} {h : Heap} (e : convA (.flt k) x h = some v) : ∃ k1 n, x = .pv (.int k1 n) ∧ v = .pv (.flt k (k.nearest n)) := by
  rcases x with p | _ | _ | _ | _ | _ | _ | _ | _
  · cases p <;> simp [convA] at e
    exact ⟨_, _, rfl, e.symm⟩
  all_goals simp [convA] at e

theorem convA_strStr {x v : V} {h : Heap} (e : convA .strStr x h = some v) : ∃ l, x = .pv (.str l) ∧ v = .pv (.str l) := by
  rcases x with p | _ | _ | _ | _ | _ | _ | _ | _
  · cases p <;> simp [convA] at e
    exact ⟨_, rfl, e.symm⟩
  all_goals simp [convA] at e

theorem convA_strBytes {x v : V} {h : Heap} (e : convA .strBytes x h = some v) : ∃ l, x = .pv (.str l) ∧ v = .pv (.sl (l.map fun b => .int .u8 b.toNat)) := by
  rcases x with p | _ | _ | _ | _ | _ | _ | _ | _
  · cases p <;> simp [convA] at e
    exact ⟨_, rfl, e.symm⟩
  all_goals simp [convA] at e

theorem convA_bytesStr {x v : V} {h : Heap} (e : convA .bytesStr x h = some v) : ∃ ps l, pureElems h x = some ps ∧ bytesOf? ps = some l ∧ v = .pv (.str l) := by
  change (match pureElems h x with | some ps => (bytesOf? ps).map fun l => V.pv (.str l) | none => none) = some v at e
  split at e
  · rename_i ps hps
    simp only [Option.map_eq_some_iff] at e
    obtain ⟨l, hl, rfl⟩ := e
    exact ⟨_, _, hps, hl, rfl⟩
  · simp at e

theorem op_ok [Base] {mu : TypeId → Bool} {own : Bool} (A : At m ρ a ts h w) (hcall : CallOk P E pure raw) {op : AOp} {v : V} {h' : Heap} (htr : trOp P mu own o.op = some op) (hop : opA E pure raw ts h op = some (v, h')) (hfr : ∀ id, h.length ≤ id → id < h'.length → ρ id = none) :
    Done P a o w (ent h) (ent h') h.length h'.length m ρ v := by
  unfold trOp at htr
  split at htr
  · -- move
    rename_i x ho
    simp only [Option.bind_eq_bind, Option.bind_eq_some_iff, Option.some.injEq] at htr
    obtain ⟨ax, h1, rfl⟩ := htr
    simp only [opA, Option.map_eq_some_iff, Prod.mk.injEq] at hop
    obtain ⟨u, e1, rfl, rfl⟩ := hop
    exact op_move A (.inl ho) h1 e1
  · rename_i x ho
    simp only [Option.bind_eq_bind, Option.bind_eq_some_iff, Option.some.injEq] at htr
    obtain ⟨ax, h1, rfl⟩ := htr
    simp only [opA, Option.map_eq_some_iff, Prod.mk.injEq] at hop
    obtain ⟨u, e1, rfl, rfl⟩ := hop
    exact op_move A (.inr ho) h1 e1
  · -- pick
    rename_i c x y ho
    simp only [Option.bind_eq_bind, Option.bind_eq_some_iff, Option.some.injEq] at htr
    obtain ⟨ac, h1, ax, h2, ay, h3, rfl⟩ := htr
    simp only [opA] at hop
    split at hop
    · rename_i t u v' e1 e2 e3
      cases hop
      exact op_pick A ho h1 h2 h3 e1 e2 e3
    · simp at hop
  · -- alloc
    rename_i t ho
    simp only [Option.bind_eq_bind, Option.bind_eq_some_iff, Option.some.injEq] at htr
    obtain ⟨z, h1, rfl⟩ := htr
    simp only [opA, Option.some.injEq, Prod.mk.injEq] at hop
    obtain ⟨rfl, rfl⟩ := hop
    exact op_new A (hfr _ (Nat.le_refl _) (by simp)) ho h1
  · -- box
    rename_i t x ho
    simp only [Option.bind_eq_bind, Option.bind_eq_some_iff, Option.some.injEq] at htr
    obtain ⟨ax, h1, rfl⟩ := htr
    simp only [opA] at hop
    split at hop
    · rename_i u e1
      split at hop
      · rename_i hc
        cases hop
        exact op_box A (hfr _ (Nat.le_refl _) (by simp)) ho h1 e1 hc
      · simp at hop
    · simp at hop
  · -- load
    rename_i t x ho
    simp only [Option.bind_eq_bind, Option.bind_eq_some_iff, Option.some.injEq] at htr
    obtain ⟨ag, h0, s, h1, ax, h2, rfl⟩ := htr
    simp only [opA] at hop
    split at hop
    · rename_i u e1
      simp only [Option.map_eq_some_iff, Prod.mk.injEq] at hop
      obtain ⟨u', e2, rfl, rfl⟩ := hop
      exact op_load A ho h0 h1 h2 e1 e2
    · simp at hop
  · -- store
    rename_i t x y ho
    simp only [Option.bind_eq_bind, Option.bind_eq_some_iff, Option.some.injEq] at htr
    obtain ⟨s, h0, ax, h1, ay, h2, rfl⟩ := htr
    simp only [opA] at hop
    split at hop
    · rename_i u1 u2 e1 e2
      simp only [Option.map_eq_some_iff, Prod.mk.injEq] at hop
      obtain ⟨hh, e3, rfl, rfl⟩ := hop
      exact op_store A ho h0 h1 h2 e1 e2 e3
    · simp at hop
  · -- nilCheck
    rename_i x ho
    simp only [Option.bind_eq_bind, Option.bind_eq_some_iff, Option.some.injEq] at htr
    obtain ⟨ax, h1, rfl⟩ := htr
    simp only [opA] at hop
    split at hop
    · rename_i id off e1; cases hop; exact op_nilCheck A ho h1 e1 (.inl ⟨_, _, rfl⟩)
    · rename_i cs off e1; cases hop; exact op_nilCheck A ho h1 e1 (.inr (.inl ⟨_, _, rfl⟩))
    · rename_i f cs e1; cases hop; exact op_nilCheck A ho h1 e1 (.inr (.inr (.inl ⟨_, _, rfl⟩)))
    · rename_i f cs e1; cases hop; exact op_nilCheck A ho h1 e1 (.inr (.inr (.inr ⟨_, _, rfl⟩)))
    · simp at hop
  · -- binOp
    rename_i bop t x y yt ho
    simp only [Option.bind_eq_bind, Option.bind_eq_some_iff, Option.some.injEq] at htr
    obtain ⟨ek, h0, ax, h1, ay, h2, rfl⟩ := htr
    simp only [opA] at hop
    split at hop
    · rename_i u1 u2 e1 e2
      simp only [Option.map_eq_some_iff, Prod.mk.injEq] at hop
      obtain ⟨u', e3, rfl, rfl⟩ := hop
      exact op_bin A ho h0 h1 h2 e1 e2 e3
    · simp at hop
  · -- unOp
    rename_i uop t x ho
    simp only [Option.bind_eq_bind, Option.bind_eq_some_iff, Option.some.injEq] at htr
    obtain ⟨ax, h1, rfl⟩ := htr
    simp only [opA] at hop
    split at hop
    · rename_i u1 e1
      simp only [Option.map_eq_some_iff, Prod.mk.injEq] at hop
      obtain ⟨u', e3, rfl, rfl⟩ := hop
      exact op_un A ho h1 e1 e3
    · simp at hop
  · -- convert
    rename_i s d x ho
    split at htr
    · rename_i hsd
      subst hsd
      split at htr
      · rename_i e hs
        split at htr
        · rename_i he
          simp only [Option.bind_eq_bind, Option.bind_eq_some_iff, Option.some.injEq] at htr
          obtain ⟨ax, h1, rfl⟩ := htr
          simp only [opA] at hop
          split at hop
          · rename_i id off len sz ag e1
            split at hop
            · rename_i cs hid
              simp only [Option.map_eq_some_iff, Prod.mk.injEq] at hop
              obtain ⟨r, e2, rfl, rfl⟩ := hop
              obtain ⟨p, hh⟩ := r
              exact op_mark A ho hs he h1 e1 hid e2
            · simp at hop
          · simp at hop
        · simp at htr
      · rename_i hs
        simp only [Option.bind_eq_bind, Option.bind_eq_some_iff, Option.some.injEq] at htr
        obtain ⟨ax, h1, rfl⟩ := htr
        simp only [opA] at hop
        split at hop
        · rename_i u1 e1
          simp only [Option.map_eq_some_iff, Prod.mk.injEq] at hop
          obtain ⟨u', e3, rfl, rfl⟩ := hop
          obtain ⟨l, rfl, rfl⟩ := convA_strStr e3
          exact op_convStr A ho hs hs h1 e1
        · simp at hop
      · rename_i k hs
        simp only [Option.bind_eq_bind, Option.bind_eq_some_iff, Option.some.injEq] at htr
        obtain ⟨ax, h1, rfl⟩ := htr
        simp only [opA] at hop
        split at hop
        · rename_i u1 e1
          simp only [Option.map_eq_some_iff, Prod.mk.injEq] at hop
          obtain ⟨u', e3, rfl, rfl⟩ := hop
          obtain ⟨k1, n, rfl, rfl⟩ := convA_int e3
          exact op_convInt A ho hs hs h1 e1
        · simp at hop
      · simp at htr
    · simp only [Option.bind_eq_bind, Option.bind_eq_some_iff, Option.some.injEq] at htr
      obtain ⟨cv, h0, ax, h1, rfl⟩ := htr
      simp only [opA] at hop
      split at hop
      · rename_i u1 e1
        simp only [Option.map_eq_some_iff, Prod.mk.injEq] at hop
        obtain ⟨u', e3, rfl, rfl⟩ := hop
        unfold trConv at h0
        split at h0
        · rename_i k0 k hs hd
          cases h0
          obtain ⟨k1, n, rfl, rfl⟩ := convA_int e3
          exact op_convInt A ho hs hd h1 e1
        · rename_i k0 k hs hd
          cases h0
          obtain ⟨k1, n, rfl, rfl⟩ := convA_flt e3
          exact op_convFlt A ho hs hd h1 e1
        · rename_i hs hd
          cases h0
          obtain ⟨l, rfl, rfl⟩ := convA_strStr e3
          exact op_convStr A ho hs hd h1 e1
        · rename_i e hs hd
          split at h0
          · rename_i he
            cases h0
            obtain ⟨l, rfl, rfl⟩ := convA_strBytes e3
            exact op_strBytes A ho hs hd he h1 e1
          · simp at h0
        · rename_i e hs hd
          split at h0
          · rename_i he
            cases h0
            obtain ⟨ps, l, hps, hl, rfl⟩ := convA_bytesStr e3
            exact op_bytesStr A ho hs he hd h1 e1 hps hl
          · simp at h0
        · simp at h0
      · simp at hop
  · -- makeFunc
    rename_i f first caps ho
    split at htr
    · rename_i h0
      simp only [Option.bind_eq_bind, Option.bind_eq_some_iff, Option.some.injEq] at htr
      obtain ⟨axs, h1, rfl⟩ := htr
      simp only [opA] at hop
      split at hop
      · rename_i cs e1
        cases hop
        exact op_mkFn A ho h0 h1 e1
      · simp at hop
    · simp at htr
  · -- makeSlice
    rename_i t l c ho
    simp only [Option.bind_eq_bind, Option.bind_eq_some_iff] at htr
    obtain ⟨e, he, ag, hag, z, hz, htr⟩ := htr
    split at htr
    · rename_i hcond
      obtain ⟨c1, c2, c3⟩ := hcond
      simp only [Option.bind_eq_some_iff, Option.some.injEq] at htr
      obtain ⟨by_, hby, ax, h1, ay, h2, rfl⟩ := htr
      simp only [opA] at hop
      split at hop
      · rename_i u1 u2 e1 e2
        split at hop
        · rename_i n1 n2 q1 q2
          split at hop
          · rename_i hcond
            obtain ⟨rfl, g1, g2, _⟩ := hcond
            cases hop
            exact op_mkSlice A (hfr _ (Nat.le_refl _) (by simp)) ho he hz c1 hby h1 h2 e1 e2 q1 q2 g1 g2
          · simp at hop
        · simp at hop
      · simp at hop
    · simp at htr
  · -- slice
    rename_i t x lo hi ho
    simp only [Option.bind_eq_bind] at htr
    split at htr
    · rename_i hd
      simp only [Option.bind_eq_some_iff, Option.some.injEq] at htr
      obtain ⟨ax, h1, alo, h2, ahi, h3, rfl⟩ := htr
      simp only [opA] at hop
      split at hop
      · rename_i u vlo vhi e1 e2 e3
        simp only [Option.map_eq_some_iff, Prod.mk.injEq] at hop
        obtain ⟨u', e4, rfl, rfl⟩ := hop
        exact op_sliceStr A ho hd h1 h2 h3 e1 e2 e3 e4
      · simp at hop
    · rename_i e hd
      simp only [Option.bind_eq_some_iff, Option.some.injEq] at htr
      obtain ⟨sz, hsz, ax, h1, alo, h2, ahi, h3, rfl⟩ := htr
      simp only [opA] at hop
      split at hop
      · rename_i u vlo vhi e1 e2 e3
        simp only [Option.map_eq_some_iff, Prod.mk.injEq] at hop
        obtain ⟨u', e4, rfl, rfl⟩ := hop
        exact op_sliceSl A ho hd hsz h1 h2 h3 e1 e2 e3 e4
      · simp at hop
    · rename_i n e hd
      simp only [Option.bind_eq_some_iff, Option.some.injEq] at htr
      obtain ⟨ag, hag, sz, hsz, ax, h1, alo, h2, ahi, h3, rfl⟩ := htr
      simp only [opA] at hop
      split at hop
      · rename_i u vlo vhi e1 e2 e3
        simp only [Option.map_eq_some_iff, Prod.mk.injEq] at hop
        obtain ⟨u', e4, rfl, rfl⟩ := hop
        exact op_sliceArr A ho hd hsz h1 h2 h3 e1 e2 e3 e4
      · simp at hop
    · simp at htr
  · -- fieldAddr
    rename_i s x f ho
    simp only [Option.bind_eq_bind, Option.bind_eq_some_iff] at htr
    obtain ⟨fd, hf, sz, hsz, htr⟩ := htr
    split at htr
    · rename_i hpos
      simp only [Option.bind_eq_some_iff, Option.some.injEq] at htr
      obtain ⟨ax, h1, rfl⟩ := htr
      simp only [opA] at hop
      split at hop
      · rename_i u e1
        simp only [Option.map_eq_some_iff, Prod.mk.injEq] at hop
        obtain ⟨u', e2, rfl, rfl⟩ := hop
        exact op_faddr A ho hf hsz hpos h1 e1 e2
      · simp at hop
    · simp at htr
  · -- field
    rename_i t x f ho
    simp only [Option.bind_eq_bind, Option.bind_eq_some_iff, Option.some.injEq] at htr
    obtain ⟨fd, hf, ag, hag, sz, hsz, ax, h1, rfl⟩ := htr
    simp only [opA] at hop
    split at hop
    · rename_i u e1
      simp only [Option.map_eq_some_iff, Prod.mk.injEq] at hop
      obtain ⟨u', e2, rfl, rfl⟩ := hop
      exact op_field A ho hf hag hsz h1 e1 e2
    · simp at hop
  · -- indexAddr
    rename_i t x i ho
    simp only [Option.bind_eq_bind] at htr
    split at htr
    · rename_i n e hd
      simp only [Option.bind_eq_some_iff, Option.some.injEq] at htr
      obtain ⟨sz, hsz, ax, h1, ay, h2, rfl⟩ := htr
      simp only [opA] at hop
      split at hop
      · rename_i u1 u2 e1 e2
        simp only [Option.map_eq_some_iff, Prod.mk.injEq] at hop
        obtain ⟨u', e3, rfl, rfl⟩ := hop
        exact op_iaddrArr A ho hd hsz h1 h2 e1 e2 e3
      · simp at hop
    · rename_i e hd
      simp only [Option.bind_eq_some_iff, Option.some.injEq] at htr
      obtain ⟨sz, hsz, ax, h1, ay, h2, rfl⟩ := htr
      simp only [opA] at hop
      split at hop
      · rename_i u1 u2 e1 e2
        simp only [Option.map_eq_some_iff, Prod.mk.injEq] at hop
        obtain ⟨u', e3, rfl, rfl⟩ := hop
        exact op_iaddrSl A ho hd hsz h1 h2 e1 e2 e3
      · simp at hop
    · simp at htr
  · -- index
    rename_i t x i ho
    simp only [Option.bind_eq_bind] at htr
    split at htr
    · rename_i hd
      simp only [Option.bind_eq_some_iff, Option.some.injEq] at htr
      obtain ⟨ax, h1, ay, h2, rfl⟩ := htr
      simp only [opA] at hop
      split at hop
      · rename_i u1 u2 e1 e2
        simp only [Option.map_eq_some_iff, Prod.mk.injEq] at hop
        obtain ⟨u', e3, rfl, rfl⟩ := hop
        exact op_idxStr A ho hd h1 h2 e1 e2 e3
      · simp at hop
    · rename_i n e hd
      simp only [Option.bind_eq_some_iff] at htr
      obtain ⟨ag, hag, sz, hsz, htr⟩ := htr
      split at htr
      · rename_i hor
        simp only [Option.bind_eq_some_iff, Option.some.injEq] at htr
        obtain ⟨ax, h1, ay, h2, rfl⟩ := htr
        simp only [opA] at hop
        split at hop
        · rename_i u1 u2 e1 e2
          simp only [Option.map_eq_some_iff, Prod.mk.injEq] at hop
          obtain ⟨u', e3, rfl, rfl⟩ := hop
          exact op_idxArr A ho hd hag hsz hor h1 h2 e1 e2 e3
        · simp at hop
      · simp at htr
    · simp at htr
  · -- build
    rename_i t parts ho
    simp only [Option.bind_eq_bind, Option.bind_eq_some_iff] at htr
    obtain ⟨z, hz, htr⟩ := htr
    split at htr
    · rename_i fs hd
      split at htr
      · rename_i hall
        simp only [Option.bind_eq_some_iff, Option.some.injEq] at htr
        obtain ⟨aps, hp, rfl⟩ := htr
        simp only [opA] at hop
        split at hop
        · rename_i vs e1
          simp only [Option.map_eq_some_iff, Prod.mk.injEq] at hop
          obtain ⟨cs, e2, rfl, rfl⟩ := hop
          exact op_build A ho hz hd (.inl ⟨fs, rfl, hall, hp⟩) e1 e2
        · simp at hop
      · simp at htr
    · rename_i n e hd
      simp only [Option.bind_eq_some_iff, Option.some.injEq] at htr
      obtain ⟨sz, hsz, aps, hp, rfl⟩ := htr
      simp only [opA] at hop
      split at hop
      · rename_i vs e1
        simp only [Option.map_eq_some_iff, Prod.mk.injEq] at hop
        obtain ⟨cs, e2, rfl, rfl⟩ := hop
        exact op_build A ho hz hd (.inr ⟨n, e, sz, rfl, hsz, hp⟩) e1 e2
      · simp at hop
    · simp at htr
  · -- buildSlice
    rename_i t len parts ho
    simp only [Option.bind_eq_bind, Option.bind_eq_some_iff] at htr
    obtain ⟨e, he, ag, hag, z, hz, htr⟩ := htr
    split at htr
    · rename_i hcond
      obtain ⟨c1, c2, c3⟩ := hcond
      simp only [Option.bind_eq_some_iff, Option.some.injEq] at htr
      obtain ⟨aps, hp, rfl⟩ := htr
      simp only [opA] at hop
      split at hop
      · rename_i vs e1
        split at hop
        · rename_i hor
          split at hop
          · rename_i cs e2
            split at hop
            · rename_i hmu
              cases hop
              exact (op_buildSl (mu := true) A (fun _ => hfr _ (Nat.le_refl _) (by simp)) ho he hz c1 c2 c3 hp e1 hor.2 e2).1 rfl
            · split at hop
              · rename_i ps hps
                cases hop
                exact (op_buildSl (mu := false) A (fun hc => by simp at hc) ho he hz c1 c2 c3 hp e1 hor.2 e2).2 ps hps
              · simp at hop
          · simp at hop
        · simp at hop
      · simp at hop
    · simp at htr
  · -- call
    rename_i c ho
    exact trCall_ok A hcall ho htr hop hfr
  · -- extract
    rename_i x i ho
    simp only [Option.bind_eq_bind, Option.bind_eq_some_iff, Option.some.injEq] at htr
    obtain ⟨ax, h1, rfl⟩ := htr
    simp only [opA] at hop
    split at hop
    · rename_i us e1
      simp only [Option.map_eq_some_iff, Prod.mk.injEq] at hop
      obtain ⟨u', e2, rfl, rfl⟩ := hop
      exact op_extract A ho h1 e1 e2
    · simp at hop
  · -- makeInterface
    rename_i t x ho
    split at htr
    · cases htr
    · rename_i d hd hni
      simp only [Option.bind_eq_bind, Option.bind_eq_some_iff, Option.some.injEq] at htr
      obtain ⟨ax, h1, rfl⟩ := htr
      simp only [opA] at hop
      split at hop
      · rename_i u e1
        split at hop
        · rename_i p e2
          cases hop
          exact op_mkIface A ho hni (fun ms hd' => hd ms hd') h1 e1 e2
        · simp at hop
      · simp at hop
    · cases htr
  · simp at htr

end Ab
