/- Package variables that hold tables of numbers. -/
import Derived.Test.YtcggaaheaahinaaDoorAbExtern
import Derived.Lib.LaidTab
import Derived.Lib.LaidU8
namespace Ab
open Go

/-- A table: the variable's number, its kind of numbers, the numbers. -/
structure Tab where
  g : Nat
  k : IntKind
  zs : List Int

def tabAt : List Tab → Nat → Option Tab
  | [], _ => none
  | t :: l, g => match Nat.beq t.g g with
    | true => some t
    | false => tabAt l g

/-- What is known: these tables. -/
abbrev Base.tabs (l : List Tab) (idle : List (FuncId × Nat)) : Base where
  idle := idle
  cells := fun b o => match tabAt l b with
    | some t => (t.zs[o]?).map fun z => Value.int t.k z
    | none => none
  glob := fun g => match tabAt l g with
    | some t => some (t.zs.map fun z => PV.int t.k z)
    | none => none
  ok := by
    intro g cs h
    split at h
    · rename_i t ht
      cases h
      refine .ip _ g 0 0 (fun j => match t.zs[j]? with | some z => .int t.k z | none => undef) (fun c hc => ?_) (fun j c hj => ?_) (fun j c hj => ?_)
      · simp only [List.mem_map] at hc
        obtain ⟨z, _, rfl⟩ := hc
        rfl
      · simp only [List.getElem?_map, Option.map_eq_some_iff] at hj
        obtain ⟨z, hz, rfl⟩ := hj
        simp [ht, hz]
      · simp only [List.getElem?_map, Option.map_eq_some_iff] at hj
        obtain ⟨z, hz, rfl⟩ := hj
        simp only [hz]
        exact .int _ _
    · cases h

/-- A world that holds them. -/
def Tabs (P : Program) (w : World) : List Tab → Prop
  | [] => True
  | t :: l => (∃ name, P.globalNamed name = some t.g ∧ Lib.TabIs P w name t.k t.zs) ∧ Tabs P w l

theorem tabAt_some : ∀ {l : List Tab} {g : Nat} {t : Tab}, tabAt l g = some t → t ∈ l ∧ t.g = g
  | [], g, t, h => by simp [tabAt] at h
  | x :: l, g, t, h => by
    simp only [tabAt] at h
    split at h
    · rename_i hb; cases h; exact ⟨by simp, Nat.eq_of_beq_eq_true hb⟩
    · obtain ⟨h1, h2⟩ := tabAt_some h; exact ⟨List.mem_cons_of_mem _ h1, h2⟩

theorem Tabs.mem {P : Program} {w : World} : ∀ {l : List Tab}, Tabs P w l → ∀ {t : Tab}, t ∈ l → ∃ name, P.globalNamed name = some t.g ∧ Lib.TabIs P w name t.k t.zs
  | x :: l, h, t, ht => by
    rcases List.mem_cons.1 ht with rfl | h1
    · exact h.1
    · exact Tabs.mem h.2 h1

theorem Tabs.base {P : Program} {w : World} {l : List Tab} {idle : List (FuncId × Nat)} (h : Tabs P w l) : ∀ b o v, (Base.tabs l idle).cells b o = some v → w.cell? ⟨b, o, none⟩ = some v := by
  intro b o v hv
  change (match tabAt l b with | some t => (t.zs[o]?).map fun z => Value.int t.k z | none => none) = some v at hv
  split at hv
  · rename_i t ht
    obtain ⟨h1, rfl⟩ := tabAt_some ht
    obtain ⟨name, h2, h3⟩ := h.mem h1
    simp only [Option.map_eq_some_iff] at hv
    obtain ⟨z, hz, rfl⟩ := hv
    have hlt : o < t.zs.length := (List.getElem?_eq_some_iff.1 hz).1
    have := h3.cell h2 o hlt
    rw [this]
    simp [hz]
  · cases hv

end Ab
