/- SpX: steps, walks, laws: see the remarks within. -/
import Derived.Test.YtcggaaheaahinaaDoorSpW
set_option linter.unusedSimpArgs false
set_option linter.unusedVariables false
-- What each function answers; the law.
set_option linter.unusedVariables false
set_option linter.unusedSimpArgs false
namespace Pl
open Go Ab
variable {E : Env}

theorem a31 (S : HS E) (b : List UInt8) (x : Cd) (h : b.length + x.bits.length ≤ 4611686018427387904) : A31 E b x = some (fuseC b x) := A31_B S b x (fuse_ok h)
theorem a32 (S : HS E) (b : List UInt8) (x : Cd) (h : b.length + x.bits.length ≤ 4611686018427387904) : A32 E b (conv x) = some (conv (fuseC b x)) := A32_B S b (conv x) (rfuse_ok h)
theorem a55 (S : HS E) (w : W4) : A55 E w = some (setOf w) := A55_B S w (from_ok w)
theorem a30 (S : HS E) (w : W4) : A30 E w = some (setOf w) := A30_B S w (by unfold B30; rw [a55 S]; rfl)
theorem a8 (S : HS E) : ∀ x : Cd, NarC 100000000000 x → A8 E x = some (conv x) := by
  refine Cd.ind fun x ih hn => ?_
  obtain ⟨h1, h2⟩ := (nar_eq x).1 hn
  exact A8_B S x (codedOf_ok x (a30 S _) (fun y hy => ih y hy (h2 y hy)) h1)
theorem a6 (S : HS E) : ∀ (x : Cd) (d : Int), d < 1000 → A6 E x d = some (vastC x d) := by
  refine Cd.ind fun x ih d hd => ?_
  exact A6_B S x d (vast_ok x d hd fun h y hy => ih y hy (d - 1) (by omega))
theorem a28 (S : HS E) : ∀ x : Cd, x.tot ≤ 100000000000 → A28 E x = some (szN x : Int) := by
  refine Cd.ind fun x ih ht => ?_
  exact A28_B S x (size_ok x (fun y hy => ih y hy (by have := kid_tot hy; omega)) ht)
theorem a29 (S : HS E) (hT : ∀ b : List UInt8, b.length ≤ 9223372036854775807 → ∃ t, A53 E b [48, 49] = some t ∧ (t = [] ↔ b.all is01 = true)) : ∀ (x : Cd) (d : Int), x.tot ≤ 100000000000 → d < 100000 → A29 E x d = some (goodC x d) := by
  refine Cd.ind fun x ih d ht hd => ?_
  have hl := len_tot x
  have hb := bits_tot x
  refine A29_B S x d (good_ok x d (hT _ (by omega)) fun h1 => ?_)
  refine contains_ok x.l (index_ok x.l (p := fun y => !goodC y (d - 1)) (fun y hy => ?_) (by omega))
  refine A54_B S y d ?_
  unfold B54
  rw [w64 (by omega), ih y hy (d - 1) (by have := kid_tot hy; omega) (by omega)]; rfl
theorem a7 (S : HS E) (hT : ∀ b : List UInt8, b.length ≤ 9223372036854775807 → ∃ t, A53 E b [48, 49] = some t ∧ (t = [] ↔ b.all is01 = true)) (x : Cd) (ht : x.tot ≤ 100000000000) : A7 E x = some (GoodC x) :=
  A7_B S x (Good_ok x (a28 S x ht) (a29 S hT x 8000 ht (by omega)))
theorem a35 (S : HS E) : ∀ (x y : Cd), NarC 100000000000 x → A35 E x y = some (same x y) := by
  refine Cd.ind fun x ih y hn => ?_
  obtain ⟨h1, h2⟩ := (nar_eq x).1 hn
  exact A35_B S x y (same_ok x y (eqf_ok x.l y.l (fun a ha b hb => ih a ha b (h2 a ha)) (by omega)))
theorem a34 (S : HS E) (y x : Cd) (hn : NarC 100000000000 x) : A34 E y x = some (same x y) := A34_B S y x (by unfold B34; rw [a35 S x y hn]; rfl)
theorem a36 (S : HS E) : ∀ (x y : Cd), WfC x → WfC y → NarC 100000000000 x → A36 E (conv x) (conv y) = some (same x y) := by
  refine Cd.ind fun x ih y hx hy hn => ?_
  obtain ⟨h1, h2⟩ := (nar_eq x).1 hn
  exact A36_B S _ _ (rsame_ok x y hx hy (fun a ha b hb => ih a ha b (((wf_eq x).1 hx).2 a ha) (((wf_eq y).1 hy).2 b hb) (h2 a ha)) (by omega))
theorem a13 (S : HS E) : ∀ (x : Cd), NarC 100000000000 x → A13 E (conv x) (conv x) = some true := by
  refine Cd.ind fun x ih hn => ?_
  obtain ⟨h1, h2⟩ := (nar_eq x).1 hn
  exact A13_B S _ _ (alike_ok x (fun y hy => ih y hy (h2 y hy)) (by omega))
theorem a58 (S : HS E) : ∀ (x : Cd) (m : Int), 0 ≤ m → m ≤ 100000 → x.tot ≤ 100000000000 → A58 E (conv x) m = some (min (szN x : Int) m) := by
  refine Cd.ind fun x ih m h0 h1 ht => ?_
  exact A58_B S _ _ (rsize_ok x m h0 h1 (fun y hy k hk hkm => ih y hy k hk (by omega) (by have := kid_tot hy; omega)) ht)
theorem a59 (S : HS E) : ∀ (x : Cd) (m : Int), 0 ≤ m → m ≤ 100000 → x.tot ≤ 100000000000 → A59 E (conv x) m = some (min (depN x : Int) (m + 1)) := by
  refine Cd.ind fun x ih m h0 h1 ht => ?_
  by_cases hm : m = 0
  · subst hm
    have hd := depN_eq x
    refine A59_B S _ _ ?_
    unfold B59
    rw [cT (by decide)]; congr 1; omega
  · refine A59_B S _ _ (rdeep_ok x m h0 h1 (fun y hy => ?_) ht)
    rw [ih y hy (m - 1) (by omega) (by omega) (by have := kid_tot hy; omega)]
    congr 2; omega
theorem a60 (S : HS E) : ∀ (x : Cd), WfC x → x.tot ≤ 100000000000 → A60 E (conv x) = some (formC x) := by
  refine Cd.ind fun x ih hw ht => ?_
  exact A60_B S _ (formed_ok x ((wf_eq x).1 hw).1 (fun y hy => ih y hy (((wf_eq x).1 hw).2 y hy) (by have := kid_tot hy; omega)) ht)
theorem a38 (S : HS E) (x : Cd) (hw : WfC x) (ht : x.tot ≤ 100000000000) : A38 E (conv x) = some (GoodC x) :=
  A38_B S _ (rGood_ok x (a58 S x 20001 (by omega) (by omega) ht) (by have := a59 S x 8000 (by omega) (by omega) ht; rw [this]; rfl) (a60 S x hw ht))

/-- What a row must be for Flat to answer. -/
structure RowOk (l : List Cd) : Prop where
  len : l.length ≤ 100000000000
  kids : ∀ x ∈ l, x.kind = 4 → x.l.length < 9223372036854775807
  bits : ∀ x ∈ l, x.kind = 4 → ∀ y ∈ x.l, x.bits.length + y.bits.length ≤ 4611686018427387904
  flat : (flatC l).length ≤ 100000000000
theorem a9 (S : HS E) (l : List Cd) (h : RowOk l) : A9 E l = some (flatC l) := A9_B S l (flat_ok l (fun x hx h4 y hy => a31 S _ _ (h.bits x hx h4 y hy)) (by have := h.len; omega) h.kids h.flat)
theorem a10 (S : HS E) (l : List Cd) (h : RowOk l) : A10 E (l.map conv) = some ((flatC l).map conv) := A10_B S _ (rflat_ok l (fun x hx h4 y hy => a32 S _ _ (h.bits x hx h4 y hy)) (by have := h.len; omega) h.kids h.flat)
theorem a11 (S : HS E) (l : List Cd) (hn : ∀ x ∈ l, NarC 100000000000 x) (hl : l.length ≤ 100000000000) : A11 E l = some (onceC l) := by
  refine A11_B S l (once_ok l (fun x hx m hm hml => ?_) hl).1
  refine contains_ok m ?_
  refine index_ok m (p := fun y => same x y) (fun y hy => a34 S y x (hn x hx)) (by omega)
theorem a12 (S : HS E) (l : List Cd) (hw : ∀ x ∈ l, WfC x) (hn : ∀ x ∈ l, NarC 100000000000 x) (hl : l.length ≤ 100000000000) : A12 E (l.map conv) = some ((onceC l).map conv) :=
  A12_B S _ (ronce_ok l (fun x hx y hy => a36 S x y (hw x hx) (hw y hy) (hn x hx)) once_key hl)
theorem rowOk_simp {x : Cd} (ht : x.tot ≤ 100000000000) : RowOk (x.l.map simpC) := by
  have hl := len_tot x
  have htt := tot_eq x
  have f1 := (flat_sm x.l fun y hy => simp_sm y).1
  refine ⟨by rw [List.length_map]; omega, fun y hy h4 => ?_, fun y hy h4 z hz => ?_, by omega⟩
  · obtain ⟨a, ha, rfl⟩ := List.mem_map.1 hy
    have := (simp_sm a).n h4
    have := kid_tot ha
    omega
  · obtain ⟨a, ha, rfl⟩ := List.mem_map.1 hy
    have := (simp_sm a).k h4 z hz
    have := kid_tot ha
    omega
theorem a37 (S : HS E) : ∀ x : Cd, formC x = true → x.tot ≤ 100000000000 → A37 E x = some (simpC x) := by
  refine Cd.ind fun x ih hf ht => ?_
  have htt := tot_eq x
  rw [formC_eq, Bool.and_eq_true, List.all_eq_true] at hf
  have f1 := (flat_sm x.l fun y hy => simp_sm y).1
  refine A37_B S x (simp_ok x hf.1 (fun y hy => ih y hy (hf.2 y hy) (by have := kid_tot hy; omega)) (a9 S _ (rowOk_simp ht)) ?_ (fun b y h => a31 S b y h) ht)
  refine a11 S _ (nar_flat fun y hy => ?_) (by omega)
  obtain ⟨z, hz, rfl⟩ := List.mem_map.1 hy
  exact nar_simp z (by have := kid_tot hz; omega)
theorem a39 (S : HS E) : ∀ x : Cd, WfC x → formC x = true → x.tot ≤ 100000000000 → A39 E (conv x) = some (conv (simpC x)) := by
  refine Cd.ind fun x ih hw hf ht => ?_
  have htt := tot_eq x
  have hwk := ((wf_eq x).1 hw).2
  rw [formC_eq, Bool.and_eq_true, List.all_eq_true] at hf
  have f1 := (flat_sm x.l fun y hy => simp_sm y).1
  refine A39_B S _ (rsimp_ok x hf.1 (fun y hy => ih y hy (hwk y hy) (hf.2 y hy) (by have := kid_tot hy; omega)) (a10 S _ (rowOk_simp ht)) ?_ (fun b y h => a32 S b y h) ht)
  refine a12 S _ (wf_flat fun y hy => ?_) (nar_flat fun y hy => ?_) (by omega)
  · obtain ⟨z, hz, rfl⟩ := List.mem_map.1 hy
    exact wf_simp z (hwk z hz)
  · obtain ⟨z, hz, rfl⟩ := List.mem_map.1 hy
    exact nar_simp z (by have := kid_tot hz; omega)
theorem good_form {x : Cd} (h : GoodC x = true) : formC x = true := by
  unfold GoodC at h
  rw [Bool.and_eq_true] at h
  exact ((good_iff x 8000 (by omega)).1 h.2).2
abbrev TrimOk (E : Env) : Prop := ∀ b : List UInt8, b.length ≤ 9223372036854775807 → ∃ t, A53 E b [48, 49] = some t ∧ (t = [] ↔ b.all is01 = true)
theorem a14 (S : HS E) (hT : TrimOk E) (x : Cd) (ht : x.tot ≤ 100000000000) : A14 E x = some (SimpOf x) := A14_B S x (Of_ok x (a7 S hT x ht) fun h => a37 S x (good_form h) ht)
theorem a15 (S : HS E) (x : Cd) (hw : WfC x) (ht : x.tot ≤ 100000000000) : A15 E (conv x) = some (conv (SimpOf x)) := A15_B S _ (rOf_ok x (a38 S x hw ht) fun h => a39 S x hw (good_form h) ht)
theorem nar_of {x : Cd} (ht : x.tot ≤ 100000000000) : NarC 100000000000 (SimpOf x) := by
  unfold SimpOf
  split
  · exact nar_simp x ht
  · exact nar_tot x ht
/-- Two loops of the law. -/
theorem lawL (S : HS E) (R : List Cd) (hn : ∀ x ∈ R, NarC 100000000000 x) (hl : R.length < 9223372036854775807) (k : Unit → Option Bool) (hk : k () = some true) : loopK (fun (s : Int) => B3_L1 (A8 E) (A13 E) R (R.map conv) s) (0 : Int) k = some true := by
  refine forL R (fun (_ : Unit) i => i) (fun pre _ => True) () trivial hl ?_ ?_
  · rintro pre a post _ hp hJ hx hd hw
    left
    refine ⟨(), ?_, trivial⟩
    have hx2 : idx (R.map conv) (pre.length : Int) = some (conv a) := by rw [idx_nat] at hx ⊢; rw [List.getElem?_map, hx]; rfl
    have ha := hn a (by rw [hp]; simp)
    simp only [B3_L1, hd, hx, hx2, a8 S a ha, a13 S a ha, hw, cond_true, Option.bind_some]
  · rintro _ _ hd
    left
    exact ⟨(), by simp only [B3_L1, hd, cond_false], hk⟩
theorem law (S : HS E) (hT : TrimOk E) (h5 : A5 E = some true) (x : Cd) (l : List Cd) (hwx : WfC x) (hwl : ∀ y ∈ l, WfC y) (htx : x.tot ≤ 100000000000) (htl : Cd.totS l ≤ 100000000000) : A3 E x l = some true := by
  refine A3_B S x l ?_
  have hll := totS_len l
  unfold B3
  rw [h5, a6 S x 30 (by omega)]
  simp only [Option.bind_some, cond_true]
  cases hv : vastC x 30 with
  | true => rfl
  | false =>
  simp only [cond_false, Option.bind_some]
  cases h12 : decide ((l.length : Int) > 12) with
  | true => rfl
  | false =>
  simp only [cond_false]
  have hkt : ∀ y ∈ l, y.tot ≤ 100000000000 := fun y hy => by have := tot_mem hy; omega
  refine forL l (fun w i => (w, i)) (fun pre w => w = pre.map conv ∧ ∀ y ∈ pre, vastC y 20 = false) [] ⟨rfl, fun y hy => by cases hy⟩ (by omega) ?_ ?_
  · rintro pre a post w hp ⟨rfl, hJ⟩ hx hd hw
    have ha : a ∈ l := by rw [hp]; simp
    have hpl : pre.length + post.length + 1 = l.length := by rw [hp]; simp; omega
    simp only [B3_L0, hd, hx, a6 S a 20 (by omega), a7 S hT a (hkt a ha), cond_true, Option.bind_some]
    cases h1 : vastC a 20 with
    | true => right; right; exact ⟨true, rfl, rfl⟩
    | false =>
      cases h2 : GoodC a with
      | false => right; right; exact ⟨true, rfl, rfl⟩
      | true =>
        left
        refine ⟨(pre ++ [a]).map conv, ?_, rfl, fun y hy => ?_⟩
        · simp only [Bool.not_true, cond_false, Option.bind_some, a8 S a (nar_tot a (hkt a ha))]
          rw [join_ok (by simp; omega), hw]
          simp
        · rcases List.mem_append.1 hy with h | h
          · exact hJ y h
          · rw [List.mem_singleton.1 h]; exact h1
  · rintro w ⟨rfl, hJ⟩ hd
    left
    refine ⟨l.map conv, by simp only [B3_L0, hd, cond_false], ?_⟩
    have hrow : RowOk l := by
      refine ⟨by omega, fun y hy _ => ?_, fun y hy _ z hz => ?_, by have := flat_len l; omega⟩
      · have := len_tot y; have := hkt y hy; omega
      · have := tot_mem hz; have := tot_eq y; have := bits_tot z; have := hkt y hy; omega
    have hnar : ∀ y ∈ l, NarC 100000000000 y := fun y hy => nar_tot y (hkt y hy)
    have hfl := flat_len l
    obtain ⟨o1, o2⟩ := once_key l
    unfold B3_K0
    rw [a9 S l hrow, a10 S l hrow, a11 S l hnar (by omega), a12 S l hwl hnar (by omega)]
    simp only [Option.bind_some, List.length_map]
    rw [cF (by simp)]
    refine lawL S (flatC l) (nar_flat hnar) (by omega) _ ?_
    unfold B3_K1
    refine lawL S (onceC l) (fun y hy => hnar y (o2 y hy)) (by omega) _ ?_
    unfold B3_K2
    rw [a14 S hT x htx]
    simp only [Option.bind_some]
    rw [a8 S _ (nar_of htx), a8 S x (nar_tot x htx)]
    simp only [Option.bind_some]
    rw [a15 S x hwx htx]
    simp only [Option.bind_some]
    rw [a13 S _ (nar_of htx)]; rfl
end Pl

-- strings.Trim of 0s and 1s.
namespace Tr
open Go Ab Go.Proofs.YtcggaaheaahinaaDoor.Mach
variable {E : Env}

def Fin (res : List AResult) (rs : List PV) (ex : AExit) (st : St) : Prop := (ex = .normal ∨ ex = .ret) ∧ ∃ us, resA st res = some us ∧ pureRes (oneOf us) st.heap = some rs
theorem Fin.pv {i : Nat} {p : PV} {st : St} (h : st.tmps[i]? = some (.pv p)) : Fin [.tmp i] [p] .ret st :=
  ⟨.inr rfl, [.pv p], by simp [resA, h], by simp [oneOf, pureRes, snap, snapFuel]⟩
theorem limW {f : FuncId} {af : AFunc} {ps rs : List PV} (h : Has E f af) (hl : ps.length ≤ af.ntmps)
    (hw : W E (app af.body .skip) ⟨ps.map .pv ++ List.replicate (af.ntmps - ps.length) (.tup []), []⟩ (Fin af.results rs)) : limP E f ps = some rs :=
  (Ans.enter (h.ext _) h.func hl (W.start hw)).lim

def is01 (c : UInt8) : Bool := c == 48 || c == 49

/-- Which bytes 0 and 1 are. -/
def setPV : List PV := (List.range 256).map fun i => .bool (i == 48 || i == 49)

theorem setPV_len : setPV.length = 256 := by simp [setPV]
theorem setPV_at (c : UInt8) : setPV[c.toNat]? = some (.bool (is01 c)) := by
  have hc : c.toNat < 256 := c.toNat_lt
  have h1 : ∀ n : Nat, n < 256 → (c == UInt8.ofNat n) = (c.toNat == n) := fun n hn => by
    rw [Bool.eq_iff_iff]; simp only [beq_iff_eq]
    constructor
    · rintro rfl; simp; omega
    · intro h; apply UInt8.toNat_inj.1; simp; omega
  simp only [setPV, List.getElem?_map, List.getElem?_range hc, Option.map_some, is01]
  have e1 := h1 48 (by omega)
  have e2 := h1 49 (by omega)
  simp only [show UInt8.ofNat 48 = 48 from rfl, show UInt8.ofNat 49 = 49 from rfl] at e1 e2
  rw [e1, e2]

theorem has_ok (H : Has E 93 c93) (c : UInt8) : limP E 93 [.ip setPV 0, .int .u8 (c.toNat : Int)] = some [.bool (is01 c)] := by
  have hc : c.toNat < 256 := c.toNat_lt
  have hcut : (setPV.drop c.toNat).take 1 = [.bool (is01 c)] := by
    rw [drop_at (setPV_at c)]; rfl
  have hle : c.toNat + 1 ≤ 256 := by omega
  refine limW H (Nat.le_of_ble_eq_true rfl) ?_
  unfold c93
  refine W.go (by simp [stepsA, stepA, wantA, opA, St.eval, evals, putA, PV.cells, V.cells, PV.isCell, V.isCell, faddrA, loadA, storeA, splice, cut, mkVal, mkAgg, mkFn, pures, lenA, iaddrSlA, iaddrArrA, natOf?, elemAt, binA, intBin, strBin, unA, convA, eqRes, eqNil, isNil?, eqCell, eqCells, partA, fillA, callA, mkRes, snapL_eq, snapLF, snapLF_pvs, snap_pv, snap_slt, snap_slx, snap_nils, snap_agg, snap_fn, snap_ptr, snap_sln, sliceStrA, sliceSlA, bounds, idxStrA, idxArrA, srcCells, strideOk, isSlV, weak, weak.weakL, chunks, mkPV, growMax, ent_new, ent_cons0, ent_consS, ent_at, ent_at0]; rfl) ?_
  exact W.go (by simp [stepsA, stepA, wantA, opA, St.eval, evals, putA, PV.cells, V.cells, PV.isCell, V.isCell, faddrA, loadA, storeA, splice, cut, mkVal, mkAgg, mkFn, pures, lenA, iaddrSlA, iaddrArrA, natOf?, elemAt, binA, intBin, strBin, unA, convA, eqRes, eqNil, isNil?, eqCell, eqCells, partA, fillA, callA, mkRes, snapL_eq, snapLF, snapLF_pvs, snap_pv, snap_slt, snap_slx, snap_nils, snap_agg, snap_fn, snap_ptr, snap_sln, sliceStrA, sliceSlA, bounds, idxStrA, idxArrA, srcCells, strideOk, isSlV, weak, weak.weakL, chunks, mkPV, growMax, ent_new, ent_cons0, ent_consS, ent_at, ent_at0, setPV_len, hcut, hle, hc]; rfl) (W.retS (Fin.pv (by simp)))

/-- Cut off on the left, on the right. -/
def trimL : List UInt8 → List UInt8
  | [] => []
  | c :: l => if is01 c = true then trimL l else c :: l
def trimR (l : List UInt8) : List UInt8 := (trimL l.reverse).reverse

theorem trimL_all : ∀ l, trimL l = [] ↔ l.all is01 = true
  | [] => by simp [trimL]
  | c :: l => by
    simp only [trimL, List.all_cons, Bool.and_eq_true]
    split
    · rename_i h; simp [h, trimL_all l]
    · rename_i h; simp [h]

theorem trim_all (l : List UInt8) : trimL (trimR l) = [] ↔ l.all is01 = true := by
  rw [trimL_all]
  have key : ∀ l : List UInt8, (trimL l).all is01 = true ↔ l.all is01 = true := by
    intro l
    induction l with
    | nil => simp [trimL]
    | cons c l ih =>
      simp only [trimL]
      split
      · rename_i h; simp only [ih, List.all_cons, h, Bool.true_and]
      · rfl
  simp only [trimR, List.all_reverse, key]

theorem trimL_ok (H : Has E 75 c75) (H1 : Has E 93 c93) (b : List UInt8) (hb : b.length ≤ 9223372036854775807) :
    limP E 75 [.str b, .ip setPV 0] = some [.str (trimL b)] := by
  refine limW H (Nat.le_of_ble_eq_true rfl) ?_
  unfold c75
  refine W.go (by simp [stepsA, stepA, wantA, opA, St.eval, evals, putA, PV.cells, V.cells, PV.isCell, V.isCell, faddrA, loadA, storeA, splice, cut, mkVal, mkAgg, mkFn, pures, lenA, iaddrSlA, iaddrArrA, natOf?, elemAt, binA, intBin, strBin, unA, convA, eqRes, eqNil, isNil?, eqCell, eqCells, partA, fillA, callA, mkRes, snapL_eq, snapLF, snapLF_pvs, snap_pv, snap_slt, snap_slx, snap_nils, snap_agg, snap_fn, snap_ptr, snap_sln, sliceStrA, sliceSlA, bounds, idxStrA, idxArrA, srcCells, strideOk, isSlV, weak, weak.weakL, chunks, mkPV, growMax, ent_new, ent_cons0, ent_consS, ent_at, ent_at0]; rfl) ?_
  refine W.blockS ?_
  refine W.loopS (fun k st => ∃ s : List UInt8, k = s.length ∧ trimL s = trimL b ∧ ∃ x2 x3 x4 x5 x6 x7 x8 x9 x10 x11 x12 x13 x14 x15 h, st = ⟨[.pv (.str s), .pv (.ip setPV 0), x2, x3, x4, x5, x6, x7, x8, x9, x10, x11, x12, x13, x14, x15], h⟩) b.length ⟨b, rfl, rfl, _, _, _, _, _, _, _, _, _, _, _, _, _, _, _, rfl⟩ ?_
  rintro k st ⟨s, rfl, hi, x2, x3, x4, x5, x6, x7, x8, x9, x10, x11, x12, x13, x14, x15, h, rfl⟩
  refine W.go (by simp [stepsA, stepA, wantA, opA, St.eval, evals, putA, PV.cells, V.cells, PV.isCell, V.isCell, faddrA, loadA, storeA, splice, cut, mkVal, mkAgg, mkFn, pures, lenA, iaddrSlA, iaddrArrA, natOf?, elemAt, binA, intBin, strBin, unA, convA, eqRes, eqNil, isNil?, eqCell, eqCells, partA, fillA, callA, mkRes, snapL_eq, snapLF, snapLF_pvs, snap_pv, snap_slt, snap_slx, snap_nils, snap_agg, snap_fn, snap_ptr, snap_sln, sliceStrA, sliceSlA, bounds, idxStrA, idxArrA, srcCells, strideOk, isSlV, weak, weak.weakL, chunks, mkPV, growMax, ent_new, ent_cons0, ent_consS, ent_at, ent_at0]; rfl) ?_
  cases s with
  | nil =>
    refine W.condS (t := false) (by simp [stepsA, stepA, wantA, opA, St.eval, evals, putA, PV.cells, V.cells, PV.isCell, V.isCell, faddrA, loadA, storeA, splice, cut, mkVal, mkAgg, mkFn, pures, lenA, iaddrSlA, iaddrArrA, natOf?, elemAt, binA, intBin, strBin, unA, convA, eqRes, eqNil, isNil?, eqCell, eqCells, partA, fillA, callA, mkRes, snapL_eq, snapLF, snapLF_pvs, snap_pv, snap_slt, snap_slx, snap_nils, snap_agg, snap_fn, snap_ptr, snap_sln, sliceStrA, sliceSlA, bounds, idxStrA, idxArrA, srcCells, strideOk, isSlV, weak, weak.weakL, chunks, mkPV, growMax, ent_new, ent_cons0, ent_consS, ent_at, ent_at0]) (fun h => by cases h) (fun _ => W.exitS (inB.here ?_))
    exact W.go (by simp [stepsA, stepA, wantA, opA, St.eval, evals, putA, PV.cells, V.cells, PV.isCell, V.isCell, faddrA, loadA, storeA, splice, cut, mkVal, mkAgg, mkFn, pures, lenA, iaddrSlA, iaddrArrA, natOf?, elemAt, binA, intBin, strBin, unA, convA, eqRes, eqNil, isNil?, eqCell, eqCells, partA, fillA, callA, mkRes, snapL_eq, snapLF, snapLF_pvs, snap_pv, snap_slt, snap_slx, snap_nils, snap_agg, snap_fn, snap_ptr, snap_sln, sliceStrA, sliceSlA, bounds, idxStrA, idxArrA, srcCells, strideOk, isSlV, weak, weak.weakL, chunks, mkPV, growMax, ent_new, ent_cons0, ent_consS, ent_at, ent_at0]; rfl) (W.retS (Fin.pv (by rw [← hi]; simp [trimL])))
  | cons c s =>
    refine W.condS (t := true) (by simp [stepsA, stepA, wantA, opA, St.eval, evals, putA, PV.cells, V.cells, PV.isCell, V.isCell, faddrA, loadA, storeA, splice, cut, mkVal, mkAgg, mkFn, pures, lenA, iaddrSlA, iaddrArrA, natOf?, elemAt, binA, intBin, strBin, unA, convA, eqRes, eqNil, isNil?, eqCell, eqCells, partA, fillA, callA, mkRes, snapL_eq, snapLF, snapLF_pvs, snap_pv, snap_slt, snap_slx, snap_nils, snap_agg, snap_fn, snap_ptr, snap_sln, sliceStrA, sliceSlA, bounds, idxStrA, idxArrA, srcCells, strideOk, isSlV, weak, weak.weakL, chunks, mkPV, growMax, ent_new, ent_cons0, ent_consS, ent_at, ent_at0]) (fun _ => W.skipS ?_) (fun h => by cases h)
    refine W.blockS ?_
    have hc := has_ok H1 c
    refine W.go (by simp [stepsA, stepA, wantA, opA, St.eval, evals, putA, PV.cells, V.cells, PV.isCell, V.isCell, faddrA, loadA, storeA, splice, cut, mkVal, mkAgg, mkFn, pures, lenA, iaddrSlA, iaddrArrA, natOf?, elemAt, binA, intBin, strBin, unA, convA, eqRes, eqNil, isNil?, eqCell, eqCells, partA, fillA, callA, mkRes, snapL_eq, snapLF, snapLF_pvs, snap_pv, snap_slt, snap_slx, snap_nils, snap_agg, snap_fn, snap_ptr, snap_sln, sliceStrA, sliceSlA, bounds, idxStrA, idxArrA, srcCells, strideOk, isSlV, weak, weak.weakL, chunks, mkPV, growMax, ent_new, ent_cons0, ent_consS, ent_at, ent_at0, H1.raw, hc]; rfl) ?_
    simp only [trimL] at hi
    cases hic : is01 c with
    | false =>
      refine W.condS (t := true) (by simp [stepsA, stepA, wantA, opA, St.eval, evals, putA, PV.cells, V.cells, PV.isCell, V.isCell, faddrA, loadA, storeA, splice, cut, mkVal, mkAgg, mkFn, pures, lenA, iaddrSlA, iaddrArrA, natOf?, elemAt, binA, intBin, strBin, unA, convA, eqRes, eqNil, isNil?, eqCell, eqCells, partA, fillA, callA, mkRes, snapL_eq, snapLF, snapLF_pvs, snap_pv, snap_slt, snap_slx, snap_nils, snap_agg, snap_fn, snap_ptr, snap_sln, sliceStrA, sliceSlA, bounds, idxStrA, idxArrA, srcCells, strideOk, isSlV, weak, weak.weakL, chunks, mkPV, growMax, ent_new, ent_cons0, ent_consS, ent_at, ent_at0, hic]) (fun _ => W.exitS (inB.out (by simp) (inB.here ?_))) (fun h => by cases h)
      refine W.go (by simp [stepsA, stepA, wantA, opA, St.eval, evals, putA, PV.cells, V.cells, PV.isCell, V.isCell, faddrA, loadA, storeA, splice, cut, mkVal, mkAgg, mkFn, pures, lenA, iaddrSlA, iaddrArrA, natOf?, elemAt, binA, intBin, strBin, unA, convA, eqRes, eqNil, isNil?, eqCell, eqCells, partA, fillA, callA, mkRes, snapL_eq, snapLF, snapLF_pvs, snap_pv, snap_slt, snap_slx, snap_nils, snap_agg, snap_fn, snap_ptr, snap_sln, sliceStrA, sliceSlA, bounds, idxStrA, idxArrA, srcCells, strideOk, isSlV, weak, weak.weakL, chunks, mkPV, growMax, ent_new, ent_cons0, ent_consS, ent_at, ent_at0]; rfl) (W.retS (Fin.pv ?_))
      rw [← hi, hic]; rfl
    | true =>
      refine W.condS (t := false) (by simp [stepsA, stepA, wantA, opA, St.eval, evals, putA, PV.cells, V.cells, PV.isCell, V.isCell, faddrA, loadA, storeA, splice, cut, mkVal, mkAgg, mkFn, pures, lenA, iaddrSlA, iaddrArrA, natOf?, elemAt, binA, intBin, strBin, unA, convA, eqRes, eqNil, isNil?, eqCell, eqCells, partA, fillA, callA, mkRes, snapL_eq, snapLF, snapLF_pvs, snap_pv, snap_slt, snap_slx, snap_nils, snap_agg, snap_fn, snap_ptr, snap_sln, sliceStrA, sliceSlA, bounds, idxStrA, idxArrA, srcCells, strideOk, isSlV, weak, weak.weakL, chunks, mkPV, growMax, ent_new, ent_cons0, ent_consS, ent_at, ent_at0, hic]) (fun h => by cases h) (fun _ => W.skipS ?_)
      refine W.go (by simp [stepsA, stepA, wantA, opA, St.eval, evals, putA, PV.cells, V.cells, PV.isCell, V.isCell, faddrA, loadA, storeA, splice, cut, mkVal, mkAgg, mkFn, pures, lenA, iaddrSlA, iaddrArrA, natOf?, elemAt, binA, intBin, strBin, unA, convA, eqRes, eqNil, isNil?, eqCell, eqCells, partA, fillA, callA, mkRes, snapL_eq, snapLF, snapLF_pvs, snap_pv, snap_slt, snap_slx, snap_nils, snap_agg, snap_fn, snap_ptr, snap_sln, sliceStrA, sliceSlA, bounds, idxStrA, idxArrA, srcCells, strideOk, isSlV, weak, weak.weakL, chunks, mkPV, growMax, ent_new, ent_cons0, ent_consS, ent_at, ent_at0]; rfl) (W.skip (W.skip ?_))
      refine ⟨s.length, by simp, s, rfl, ?_, _, _, _, _, _, _, _, _, _, _, _, _, _, _, _, rfl⟩
      rw [← hi, hic]; rfl

theorem trimR_ok (H : Has E 76 c76) (H1 : Has E 93 c93) (b : List UInt8) (hb : b.length ≤ 9223372036854775807) :
    limP E 76 [.str b, .ip setPV 0] = some [.str (trimR b)] := by
  refine limW H (Nat.le_of_ble_eq_true rfl) ?_
  unfold c76
  refine W.go (by simp [stepsA, stepA, wantA, opA, St.eval, evals, putA, PV.cells, V.cells, PV.isCell, V.isCell, faddrA, loadA, storeA, splice, cut, mkVal, mkAgg, mkFn, pures, lenA, iaddrSlA, iaddrArrA, natOf?, elemAt, binA, intBin, strBin, unA, convA, eqRes, eqNil, isNil?, eqCell, eqCells, partA, fillA, callA, mkRes, snapL_eq, snapLF, snapLF_pvs, snap_pv, snap_slt, snap_slx, snap_nils, snap_agg, snap_fn, snap_ptr, snap_sln, sliceStrA, sliceSlA, bounds, idxStrA, idxArrA, srcCells, strideOk, isSlV, weak, weak.weakL, chunks, mkPV, growMax, ent_new, ent_cons0, ent_consS, ent_at, ent_at0]; rfl) ?_
  refine W.blockS ?_
  refine W.loopS (fun k st => ∃ s : List UInt8, k = s.length ∧ s.length ≤ b.length ∧ trimR s = trimR b ∧ ∃ x2 x3 x4 x5 x6 x7 x8 x9 x10 x11 x12 x13 x14 x15 x16 x17 x18 x19 x20 x21 h, st = ⟨[.pv (.str s), .pv (.ip setPV 0), x2, x3, x4, x5, x6, x7, x8, x9, x10, x11, x12, x13, x14, x15, x16, x17, x18, x19, x20, x21], h⟩) b.length ⟨b, rfl, by omega, rfl, _, _, _, _, _, _, _, _, _, _, _, _, _, _, _, _, _, _, _, _, _, rfl⟩ ?_
  rintro k st ⟨s, rfl, hsb, hi, x2, x3, x4, x5, x6, x7, x8, x9, x10, x11, x12, x13, x14, x15, x16, x17, x18, x19, x20, x21, h, rfl⟩
  refine W.go (by simp [stepsA, stepA, wantA, opA, St.eval, evals, putA, PV.cells, V.cells, PV.isCell, V.isCell, faddrA, loadA, storeA, splice, cut, mkVal, mkAgg, mkFn, pures, lenA, iaddrSlA, iaddrArrA, natOf?, elemAt, binA, intBin, strBin, unA, convA, eqRes, eqNil, isNil?, eqCell, eqCells, partA, fillA, callA, mkRes, snapL_eq, snapLF, snapLF_pvs, snap_pv, snap_slt, snap_slx, snap_nils, snap_agg, snap_fn, snap_ptr, snap_sln, sliceStrA, sliceSlA, bounds, idxStrA, idxArrA, srcCells, strideOk, isSlV, weak, weak.weakL, chunks, mkPV, growMax, ent_new, ent_cons0, ent_consS, ent_at, ent_at0]; rfl) ?_
  rcases List.eq_nil_or_concat s with rfl | ⟨s, c, rfl⟩
  · refine W.condS (t := false) (by simp [stepsA, stepA, wantA, opA, St.eval, evals, putA, PV.cells, V.cells, PV.isCell, V.isCell, faddrA, loadA, storeA, splice, cut, mkVal, mkAgg, mkFn, pures, lenA, iaddrSlA, iaddrArrA, natOf?, elemAt, binA, intBin, strBin, unA, convA, eqRes, eqNil, isNil?, eqCell, eqCells, partA, fillA, callA, mkRes, snapL_eq, snapLF, snapLF_pvs, snap_pv, snap_slt, snap_slx, snap_nils, snap_agg, snap_fn, snap_ptr, snap_sln, sliceStrA, sliceSlA, bounds, idxStrA, idxArrA, srcCells, strideOk, isSlV, weak, weak.weakL, chunks, mkPV, growMax, ent_new, ent_cons0, ent_consS, ent_at, ent_at0]) (fun h => by cases h) (fun _ => W.exitS (inB.here ?_))
    exact W.go (by simp [stepsA, stepA, wantA, opA, St.eval, evals, putA, PV.cells, V.cells, PV.isCell, V.isCell, faddrA, loadA, storeA, splice, cut, mkVal, mkAgg, mkFn, pures, lenA, iaddrSlA, iaddrArrA, natOf?, elemAt, binA, intBin, strBin, unA, convA, eqRes, eqNil, isNil?, eqCell, eqCells, partA, fillA, callA, mkRes, snapL_eq, snapLF, snapLF_pvs, snap_pv, snap_slt, snap_slx, snap_nils, snap_agg, snap_fn, snap_ptr, snap_sln, sliceStrA, sliceSlA, bounds, idxStrA, idxArrA, srcCells, strideOk, isSlV, weak, weak.weakL, chunks, mkPV, growMax, ent_new, ent_cons0, ent_consS, ent_at, ent_at0]; rfl) (W.retS (Fin.pv (by rw [← hi]; simp [trimR, trimL])))
  · refine W.condS (t := true) (by simp [stepsA, stepA, wantA, opA, St.eval, evals, putA, PV.cells, V.cells, PV.isCell, V.isCell, faddrA, loadA, storeA, splice, cut, mkVal, mkAgg, mkFn, pures, lenA, iaddrSlA, iaddrArrA, natOf?, elemAt, binA, intBin, strBin, unA, convA, eqRes, eqNil, isNil?, eqCell, eqCells, partA, fillA, callA, mkRes, snapL_eq, snapLF, snapLF_pvs, snap_pv, snap_slt, snap_slx, snap_nils, snap_agg, snap_fn, snap_ptr, snap_sln, sliceStrA, sliceSlA, bounds, idxStrA, idxArrA, srcCells, strideOk, isSlV, weak, weak.weakL, chunks, mkPV, growMax, ent_new, ent_cons0, ent_consS, ent_at, ent_at0]) (fun _ => W.skipS ?_) (fun h => by cases h)
    refine W.blockS ?_
    have hc := has_ok H1 c
    have hsb' : s.length + 1 ≤ b.length := by simpa using hsb
    have hw : IntKind.i64.wrap (s.length : Int) = (s.length : Int) := wrap_i64 (by omega)
    refine W.go (by simp [stepsA, stepA, wantA, opA, St.eval, evals, putA, PV.cells, V.cells, PV.isCell, V.isCell, faddrA, loadA, storeA, splice, cut, mkVal, mkAgg, mkFn, pures, lenA, iaddrSlA, iaddrArrA, natOf?, elemAt, binA, intBin, strBin, unA, convA, eqRes, eqNil, isNil?, eqCell, eqCells, partA, fillA, callA, mkRes, snapL_eq, snapLF, snapLF_pvs, snap_pv, snap_slt, snap_slx, snap_nils, snap_agg, snap_fn, snap_ptr, snap_sln, sliceStrA, sliceSlA, bounds, idxStrA, idxArrA, srcCells, strideOk, isSlV, weak, weak.weakL, chunks, mkPV, growMax, ent_new, ent_cons0, ent_consS, ent_at, ent_at0, H1.raw, hc, hw]; rfl) ?_
    simp only [trimR, List.concat_eq_append, List.reverse_append, List.reverse_cons, List.reverse_nil, List.nil_append, List.cons_append, trimL] at hi
    cases hic : is01 c with
    | false =>
      refine W.condS (t := true) (by simp [stepsA, stepA, wantA, opA, St.eval, evals, putA, PV.cells, V.cells, PV.isCell, V.isCell, faddrA, loadA, storeA, splice, cut, mkVal, mkAgg, mkFn, pures, lenA, iaddrSlA, iaddrArrA, natOf?, elemAt, binA, intBin, strBin, unA, convA, eqRes, eqNil, isNil?, eqCell, eqCells, partA, fillA, callA, mkRes, snapL_eq, snapLF, snapLF_pvs, snap_pv, snap_slt, snap_slx, snap_nils, snap_agg, snap_fn, snap_ptr, snap_sln, sliceStrA, sliceSlA, bounds, idxStrA, idxArrA, srcCells, strideOk, isSlV, weak, weak.weakL, chunks, mkPV, growMax, ent_new, ent_cons0, ent_consS, ent_at, ent_at0, hic]) (fun _ => W.exitS (inB.out (by simp) (inB.here ?_))) (fun h => by cases h)
      refine W.go (by simp [stepsA, stepA, wantA, opA, St.eval, evals, putA, PV.cells, V.cells, PV.isCell, V.isCell, faddrA, loadA, storeA, splice, cut, mkVal, mkAgg, mkFn, pures, lenA, iaddrSlA, iaddrArrA, natOf?, elemAt, binA, intBin, strBin, unA, convA, eqRes, eqNil, isNil?, eqCell, eqCells, partA, fillA, callA, mkRes, snapL_eq, snapLF, snapLF_pvs, snap_pv, snap_slt, snap_slx, snap_nils, snap_agg, snap_fn, snap_ptr, snap_sln, sliceStrA, sliceSlA, bounds, idxStrA, idxArrA, srcCells, strideOk, isSlV, weak, weak.weakL, chunks, mkPV, growMax, ent_new, ent_cons0, ent_consS, ent_at, ent_at0]; rfl) (W.retS (Fin.pv ?_))
      rw [hic] at hi
      simp at hi
      simp [trimR, ← hi]
    | true =>
      refine W.condS (t := false) (by simp [stepsA, stepA, wantA, opA, St.eval, evals, putA, PV.cells, V.cells, PV.isCell, V.isCell, faddrA, loadA, storeA, splice, cut, mkVal, mkAgg, mkFn, pures, lenA, iaddrSlA, iaddrArrA, natOf?, elemAt, binA, intBin, strBin, unA, convA, eqRes, eqNil, isNil?, eqCell, eqCells, partA, fillA, callA, mkRes, snapL_eq, snapLF, snapLF_pvs, snap_pv, snap_slt, snap_slx, snap_nils, snap_agg, snap_fn, snap_ptr, snap_sln, sliceStrA, sliceSlA, bounds, idxStrA, idxArrA, srcCells, strideOk, isSlV, weak, weak.weakL, chunks, mkPV, growMax, ent_new, ent_cons0, ent_consS, ent_at, ent_at0, hic]) (fun h => by cases h) (fun _ => W.skipS ?_)
      refine W.go (by simp [stepsA, stepA, wantA, opA, St.eval, evals, putA, PV.cells, V.cells, PV.isCell, V.isCell, faddrA, loadA, storeA, splice, cut, mkVal, mkAgg, mkFn, pures, lenA, iaddrSlA, iaddrArrA, natOf?, elemAt, binA, intBin, strBin, unA, convA, eqRes, eqNil, isNil?, eqCell, eqCells, partA, fillA, callA, mkRes, snapL_eq, snapLF, snapLF_pvs, snap_pv, snap_slt, snap_slx, snap_nils, snap_agg, snap_fn, snap_ptr, snap_sln, sliceStrA, sliceSlA, bounds, idxStrA, idxArrA, srcCells, strideOk, isSlV, weak, weak.weakL, chunks, mkPV, growMax, ent_new, ent_cons0, ent_consS, ent_at, ent_at0, hw]; rfl) (W.skip (W.skip ?_))
      refine ⟨s.length, by simp, s, rfl, by omega, ?_, _, _, _, _, _, _, _, _, _, _, _, _, _, _, _, _, _, _, _, _, _, rfl⟩
      rw [hic] at hi
      simpa [trimR] using hi


set_option maxRecDepth 100000 in
theorem trim_ok (H : Has E 53 c53) (HL : Has E 75 c75) (HR : Has E 76 c76) (H1 : Has E 93 c93)
    (hr : E.raw 74 = false) (hk : limP E 74 [.str [48, 49]] = some [.agg setPV, .bool true]) (b : List UInt8) (hb : b.length ≤ 9223372036854775807) :
    limP E 53 [.str b, .str [48, 49]] = some [.str (trimL (trimR b))] := by
  have hlen : (trimR b).length ≤ b.length := by
    have : ∀ l : List UInt8, (trimL l).length ≤ l.length := by
      intro l
      induction l with
      | nil => simp [trimL]
      | cons c l ih => simp only [trimL]; split <;> simp <;> omega
    have := this b.reverse
    simpa [trimR] using this
  have h1 := trimR_ok HR H1 b hb
  have h2 := trimL_ok HL H1 (trimR b) (by omega)
  refine limW H (Nat.le_of_ble_eq_true rfl) ?_
  unfold c53
  refine W.go (by simp [stepsA, stepA, wantA, opA, St.eval, evals, putA, PV.cells, V.cells, PV.isCell, V.isCell, faddrA, loadA, storeA, splice, cut, mkVal, mkAgg, mkFn, pures, lenA, iaddrSlA, iaddrArrA, natOf?, elemAt, binA, intBin, strBin, unA, convA, eqRes, eqNil, isNil?, eqCell, eqCells, partA, fillA, callA, mkRes, snapL_eq, snapLF, snapLF_pvs, snap_pv, snap_slt, snap_slx, snap_nils, snap_agg, snap_fn, snap_ptr, snap_sln, sliceStrA, sliceSlA, bounds, idxStrA, idxArrA, srcCells, strideOk, isSlV, weak, weak.weakL, chunks, mkPV, growMax, ent_new, ent_cons0, ent_consS, ent_at, ent_at0]; rfl) ?_
  cases b with
  | nil =>
    refine W.go (by simp [stepsA, stepA, wantA, opA, St.eval, evals, putA, PV.cells, V.cells, PV.isCell, V.isCell, faddrA, loadA, storeA, splice, cut, mkVal, mkAgg, mkFn, pures, lenA, iaddrSlA, iaddrArrA, natOf?, elemAt, binA, intBin, strBin, unA, convA, eqRes, eqNil, isNil?, eqCell, eqCells, partA, fillA, callA, mkRes, snapL_eq, snapLF, snapLF_pvs, snap_pv, snap_slt, snap_slx, snap_nils, snap_agg, snap_fn, snap_ptr, snap_sln, sliceStrA, sliceSlA, bounds, idxStrA, idxArrA, srcCells, strideOk, isSlV, weak, weak.weakL, chunks, mkPV, growMax, ent_new, ent_cons0, ent_consS, ent_at, ent_at0]; rfl) ?_
    refine W.condS (t := true) (by simp [stepsA, stepA, wantA, opA, St.eval, evals, putA, PV.cells, V.cells, PV.isCell, V.isCell, faddrA, loadA, storeA, splice, cut, mkVal, mkAgg, mkFn, pures, lenA, iaddrSlA, iaddrArrA, natOf?, elemAt, binA, intBin, strBin, unA, convA, eqRes, eqNil, isNil?, eqCell, eqCells, partA, fillA, callA, mkRes, snapL_eq, snapLF, snapLF_pvs, snap_pv, snap_slt, snap_slx, snap_nils, snap_agg, snap_fn, snap_ptr, snap_sln, sliceStrA, sliceSlA, bounds, idxStrA, idxArrA, srcCells, strideOk, isSlV, weak, weak.weakL, chunks, mkPV, growMax, ent_new, ent_cons0, ent_consS, ent_at, ent_at0]) (fun _ => ?_) (fun h => by cases h)
    refine W.go (by simp [stepsA, stepA, wantA, opA, St.eval, evals, putA, PV.cells, V.cells, PV.isCell, V.isCell, faddrA, loadA, storeA, splice, cut, mkVal, mkAgg, mkFn, pures, lenA, iaddrSlA, iaddrArrA, natOf?, elemAt, binA, intBin, strBin, unA, convA, eqRes, eqNil, isNil?, eqCell, eqCells, partA, fillA, callA, mkRes, snapL_eq, snapLF, snapLF_pvs, snap_pv, snap_slt, snap_slx, snap_nils, snap_agg, snap_fn, snap_ptr, snap_sln, sliceStrA, sliceSlA, bounds, idxStrA, idxArrA, srcCells, strideOk, isSlV, weak, weak.weakL, chunks, mkPV, growMax, ent_new, ent_cons0, ent_consS, ent_at, ent_at0]; rfl) (W.retS (Fin.pv (by simp [trimR, trimL])))
  | cons c b =>
    refine W.go (by simp [stepsA, stepA, wantA, opA, St.eval, evals, putA, PV.cells, V.cells, PV.isCell, V.isCell, faddrA, loadA, storeA, splice, cut, mkVal, mkAgg, mkFn, pures, lenA, iaddrSlA, iaddrArrA, natOf?, elemAt, binA, intBin, strBin, unA, convA, eqRes, eqNil, isNil?, eqCell, eqCells, partA, fillA, callA, mkRes, snapL_eq, snapLF, snapLF_pvs, snap_pv, snap_slt, snap_slx, snap_nils, snap_agg, snap_fn, snap_ptr, snap_sln, sliceStrA, sliceSlA, bounds, idxStrA, idxArrA, srcCells, strideOk, isSlV, weak, weak.weakL, chunks, mkPV, growMax, ent_new, ent_cons0, ent_consS, ent_at, ent_at0]; rfl) ?_
    refine W.condS (t := false) (by simp [stepsA, stepA, wantA, opA, St.eval, evals, putA, PV.cells, V.cells, PV.isCell, V.isCell, faddrA, loadA, storeA, splice, cut, mkVal, mkAgg, mkFn, pures, lenA, iaddrSlA, iaddrArrA, natOf?, elemAt, binA, intBin, strBin, unA, convA, eqRes, eqNil, isNil?, eqCell, eqCells, partA, fillA, callA, mkRes, snapL_eq, snapLF, snapLF_pvs, snap_pv, snap_slt, snap_slx, snap_nils, snap_agg, snap_fn, snap_ptr, snap_sln, sliceStrA, sliceSlA, bounds, idxStrA, idxArrA, srcCells, strideOk, isSlV, weak, weak.weakL, chunks, mkPV, growMax, ent_new, ent_cons0, ent_consS, ent_at, ent_at0]) (fun h => by cases h) (fun _ => W.skipS ?_)
    refine W.go (by simp [stepsA, stepA, wantA, opA, St.eval, evals, putA, PV.cells, V.cells, PV.isCell, V.isCell, faddrA, loadA, storeA, splice, cut, mkVal, mkAgg, mkFn, pures, lenA, iaddrSlA, iaddrArrA, natOf?, elemAt, binA, intBin, strBin, unA, convA, eqRes, eqNil, isNil?, eqCell, eqCells, partA, fillA, callA, mkRes, snapL_eq, snapLF, snapLF_pvs, snap_pv, snap_slt, snap_slx, snap_nils, snap_agg, snap_fn, snap_ptr, snap_sln, sliceStrA, sliceSlA, bounds, idxStrA, idxArrA, srcCells, strideOk, isSlV, weak, weak.weakL, chunks, mkPV, growMax, ent_new, ent_cons0, ent_consS, ent_at, ent_at0]; rfl) ?_
    refine W.condS (t := false) (by simp [stepsA, stepA, wantA, opA, St.eval, evals, putA, PV.cells, V.cells, PV.isCell, V.isCell, faddrA, loadA, storeA, splice, cut, mkVal, mkAgg, mkFn, pures, lenA, iaddrSlA, iaddrArrA, natOf?, elemAt, binA, intBin, strBin, unA, convA, eqRes, eqNil, isNil?, eqCell, eqCells, partA, fillA, callA, mkRes, snapL_eq, snapLF, snapLF_pvs, snap_pv, snap_slt, snap_slx, snap_nils, snap_agg, snap_fn, snap_ptr, snap_sln, sliceStrA, sliceSlA, bounds, idxStrA, idxArrA, srcCells, strideOk, isSlV, weak, weak.weakL, chunks, mkPV, growMax, ent_new, ent_cons0, ent_consS, ent_at, ent_at0]) (fun h => by cases h) (fun _ => W.skipS ?_)
    have hst : ∀ te, storeA [Ent.blk (List.replicate 256 (V.pv (PV.bool false))) te] 256 (.ptr 0 0) (.pv (.agg setPV)) = some [.blk (setPV.map .pv) te] := fun te => by
      rw [storeA_whole (cs := List.replicate 256 (V.pv (PV.bool false))) (t := te) rfl (by rw [List.length_replicate]) (by simp [V.cells, PV.cells, setPV_len]) (by simp [V.cells, PV.cells, setPV, V.isCell, PV.isCell])]
      rfl
    have hsn : snapLF (snap 999) (setPV.map .pv) [Ent.dead] = some (setPV, [Ent.dead]) := snapLF_pvs setPV
    refine W.go (by simp [stepsA, stepA, wantA, opA, St.eval, evals, putA, PV.cells, V.cells, PV.isCell, V.isCell, faddrA, loadA, cut, mkVal, mkAgg, mkFn, pures, lenA, iaddrSlA, iaddrArrA, natOf?, elemAt, binA, intBin, strBin, unA, convA, eqRes, eqNil, isNil?, eqCell, eqCells, partA, fillA, callA, mkRes, snapL_eq, snapLF, snapLF_pvs, snap_pv, snap_slt, snap_slx, snap_nils, snap_agg, snap_fn, snap_ptr, snap_sln, sliceStrA, sliceSlA, bounds, idxStrA, idxArrA, srcCells, strideOk, isSlV, weak, weak.weakL, chunks, mkPV, growMax, ent_new, ent_cons0, ent_consS, ent_at, ent_at0, hr, hk, hst, setPV_len, -List.reduceReplicate]; rfl) ?_
    refine W.go (by simp [stepsA, stepA, wantA, opA, St.eval, evals, putA, PV.cells, V.cells, PV.isCell, V.isCell, faddrA, loadA, storeA, splice, cut, mkVal, mkAgg, mkFn, pures, lenA, iaddrSlA, iaddrArrA, natOf?, elemAt, binA, intBin, strBin, unA, convA, eqRes, eqNil, isNil?, eqCell, eqCells, partA, fillA, callA, mkRes, snapL_eq, snapLF, snapLF_pvs, snap_pv, snap_slt, snap_slx, snap_nils, snap_agg, snap_fn, snap_ptr, snap_sln, sliceStrA, sliceSlA, bounds, idxStrA, idxArrA, srcCells, strideOk, isSlV, weak, weak.weakL, chunks, mkPV, growMax, ent_new, ent_cons0, ent_consS, ent_at, ent_at0]; rfl) ?_
    refine W.condS (t := true) (by simp [stepsA, stepA, wantA, opA, St.eval, evals, putA, PV.cells, V.cells, PV.isCell, V.isCell, faddrA, loadA, storeA, splice, cut, mkVal, mkAgg, mkFn, pures, lenA, iaddrSlA, iaddrArrA, natOf?, elemAt, binA, intBin, strBin, unA, convA, eqRes, eqNil, isNil?, eqCell, eqCells, partA, fillA, callA, mkRes, snapL_eq, snapLF, snapLF_pvs, snap_pv, snap_slt, snap_slx, snap_nils, snap_agg, snap_fn, snap_ptr, snap_sln, sliceStrA, sliceSlA, bounds, idxStrA, idxArrA, srcCells, strideOk, isSlV, weak, weak.weakL, chunks, mkPV, growMax, ent_new, ent_cons0, ent_consS, ent_at, ent_at0]) (fun _ => ?_) (fun h => by cases h)
    refine W.go (by simp [stepsA, stepA, wantA, opA, St.eval, evals, putA, PV.cells, V.cells, PV.isCell, V.isCell, faddrA, loadA, storeA, splice, cut, mkVal, mkAgg, mkFn, pures, lenA, iaddrSlA, iaddrArrA, natOf?, elemAt, binA, intBin, strBin, unA, convA, eqRes, eqNil, isNil?, eqCell, eqCells, partA, fillA, callA, mkRes, snapL_eq, snapLF, snapLF_pvs, snap_pv, snap_slt, snap_slx, snap_nils, snap_agg, snap_fn, snap_ptr, snap_sln, sliceStrA, sliceSlA, bounds, idxStrA, idxArrA, srcCells, strideOk, isSlV, weak, weak.weakL, chunks, mkPV, growMax, ent_new, ent_cons0, ent_consS, ent_at, ent_at0, hsn, setPV_len, HR.raw, HL.raw, h1, h2]; rfl) (W.retS (Fin.pv (by simp)))
end Tr
namespace Pl
open Go Ab Go.Proofs.YtcggaaheaahinaaDoor.Mach
theorem is01_eq : Tr.is01 = is01 := by funext c; simp [Tr.is01, is01]
theorem trimOk {E : Env} (H : Has E 53 c53) (HL : Has E 75 c75) (HR : Has E 76 c76) (H1 : Has E 93 c93) (hr : E.raw 74 = false)
    (hk : limP E 74 [.str [48, 49]] = some [.agg Tr.setPV, .bool true]) : TrimOk E := fun b hb =>
  ⟨_, A53_of _ _ (Tr.trim_ok H HL HR H1 hr hk b hb), by rw [Tr.trim_all, is01_eq]⟩
end Pl
