/- What a law is handed: from the data as read to pure values. -/
import Derived.Test.YtcggaaheaahinaaDoorAbSound
import Derived.ChangeArms
import Derived.ChangeBears
import Derived.ChangeFn
import Derived.OpenShut
import Derived.Below
import Derived.Carry
namespace Ab
open Go


/-- Each cell is as it is. -/
def immOf (w : World) : Imm := fun b o => w.cell? ⟨b, o, none⟩

theorem sim_immOf [Base] (w : World) (hb : ∀ b o v, Base.cells b o = some v → w.cell? ⟨b, o, none⟩ = some v) : Sim (immOf w) (fun _ => none) (fun _ => .dead) w :=
  ⟨fun _ _ _ h => h, fun _ _ h => by simp at h, fun _ h => by simp at h, fun _ _ h => by simp at h, hb, fun _ _ _ _ h => by simp [live] at h⟩

def tiles (P : Program) (fit : TypeId → List PV → Prop) : List TypeId → List PV → Prop
  | [], ps => ps = []
  | t :: ts, ps => fit t (ps.take (P.cellsOf t)) ∧ tiles P fit ts (ps.drop (P.cellsOf t))

def PV.isAgg : PV → Bool
  | .agg _ => true
  | _ => false

theorem PV.one_cell {p : PV} (h : p.isCell = true) : p.cells = [p] ∧ p.isAgg = false := by
  cases p <;> first | exact ⟨rfl, rfl⟩ | cases h

/-- Cells of a type, as pure values. -/
def fits (P : Program) : Nat → TypeId → List PV → Prop
  | 0, _, _ => False
  | n + 1, t, ps => match P.underlying t with
    | some .bool => ∃ b, ps = [.bool b]
    | some (.int k) => ∃ i, ps = [.int k i] ∧ (Lit.int k i).wf = true
    | some (.float k) => ∃ b, ps = [.flt k b] ∧ (Lit.float k b).wf = true
    | some .string => ∃ l, ps = [.str l] ∧ l.length ≤ maxLen
    | some (.slice e) => ∃ es, ps = [.sl es] ∧ es.length ≤ maxLen ∧ ∀ x ∈ es, fits P n e x.cells ∧ aggT P e = some x.isAgg
    | some (.struct fs) => tiles P (fits P n) (fs.toList.map (·.type)) ps
    | some (.array m e) => tiles P (fits P n) (List.replicate m e) ps
    | _ => False

/-- Types that are read here, closed under their parts. -/
def closedS (P : Program) (S : List TypeId) : Bool := S.all fun t => decide (t < P.types.size) && match P.underlying t with
  | some .bool | some (.int _) | some (.float _) | some .string => true
  | some (.slice e) => S.contains e && decide (0 < P.cellsOf e) && (aggT P e == some true || (aggT P e == some false && P.cellsOf e == 1))
  | some (.struct fs) => fs.toList.all fun f => S.contains f.type
  | some (.array _ e) => S.contains e
  | _ => false

section
variable {H : Type} {enc : TypeId × Value → H} {P : Program} {w : World} {held : Bool} {sp : Nat → Bool}

/-- Cells and what they are. -/
def CellsAre (w : World) (ps : List PV) (cs : List Value) : Prop := ps.length = cs.length ∧ ∀ (j : Nat) (p : PV), ps[j]? = some p → p.isCell = true ∧ RP (immOf w) p (cs.getD j undef)

theorem CellsAre.one {p : PV} {v : Value} (hc : p.isCell = true) (h : RP (immOf w) p v) : CellsAre w [p] [v] := by
  refine ⟨rfl, fun j q hq => ?_⟩
  cases j with
  | zero => simp at hq; subst hq; exact ⟨hc, by simpa using h⟩
  | succ j => simp at hq

theorem CellsAre.app {ps qs : List PV} {cs ds : List Value} (h : CellsAre w ps cs) (k : CellsAre w qs ds) : CellsAre w (ps ++ qs) (cs ++ ds) := by
  refine ⟨by simp [h.1, k.1], fun j p hp => ?_⟩
  rcases Nat.lt_or_ge j ps.length with hlt | hge
  · rw [List.getElem?_append_left hlt] at hp
    have := h.2 j p hp
    simp only [List.getD_eq_getElem?_getD] at this ⊢
    rwa [List.getElem?_append_left (by rw [← h.1]; exact hlt)]
  · rw [List.getElem?_append_right hge] at hp
    have := k.2 _ p hp
    simp only [List.getD_eq_getElem?_getD] at this ⊢
    rwa [List.getElem?_append_right (by rw [← h.1]; exact hge), ← h.1]

theorem cells?_some {a : Addr} {n : Nat} {cs : List Value} (h : w.cells? 0 a n = some cs) : cs.length = n ∧ ∀ i, i < n → w.cell? (a.add i) = some (cs.getD i undef) := by
  unfold World.cells? at h
  rw [if_pos (Nat.zero_le _)] at h
  have hl := mapM_some_length h
  simp at hl
  refine ⟨hl, fun i hi => ?_⟩
  have := mapM_some_get h i i (by simp [hi])
  rw [this]
  simp [List.getElem?_eq_getElem (show i < cs.length by omega)]

theorem trod_float {base : Nat} {fuel : Nat} {t : TypeId} {cs : List Value} {x : DataW H × List MemPlace} {k : FloatKind} (ht : P.underlying t = some (.float k)) (h : DataW.trod enc P w base sp held fuel t cs = some x) : ∃ b, cs = [.float k b] ∧ (Lit.float k b).wf = true := by
  cases fuel with
  | zero => simp [DataW.trod] at h
  | succ n =>
    unfold DataW.trod at h
    rw [ht] at h
    split at h <;> simp_all

theorem cells_one {t : TypeId} {d : TypeDesc} {v : Value} (hu : P.underlying t = some d) (hd : (∃ k, d = .int k) ∨ d = .bool ∨ (∃ k, d = .float k) ∨ d = .string ∨ ∃ e, d = .slice e) (hok : Cell.okWide P w .any 0 t v) : v.cells.toList = [v] := by
  rcases hd with ⟨k, rfl⟩ | rfl | ⟨k, rfl⟩ | rfl | ⟨e, rfl⟩ <;> simp only [Cell.okWide, hu] at hok <;> cases v <;> first | rfl | (simp only [Cell.ok, hu] at hok)

end

/-- What a law's run leaves. -/
theorem Step.below {w w' : World} {m m' : Imm} (h : Step (fun _ => .dead) (fun _ => .dead) 0 0 m (fun _ => none) w m' (fun _ => none) w') : RowKit.Below w.heap.size w w' :=
  ⟨h.os, h.tape, h.output, h.size, fun k hk => h.blocks k hk (not_owned _ k)⟩

end Ab
