/- The laws' functions, as the seat has them; what is known ahead. -/
import Derived.Test.YtlhfndoldaokhaaDoorCiK1
import Derived.Test.YtlhfndoldaokhaaDoorCrLawRo
import Derived.Test.YtlhfndoldaokhaaDoorCrArgB
import Derived.Test.YtlhfndoldaokhaaDoorRows
set_option linter.unusedSimpArgs false
set_option linter.unusedVariables false
namespace Go.Proofs.YtlhfndoldaokhaaDoor.Mach
open Go Ab
set_option maxRecDepth 100000 in
def known0 : List (FuncId × List PV × List PV) := [(22, a1, r1)]
set_option maxRecDepth 100000 in
theorem knows0 : Knows Tryd.prog known0 := (.cons k1 Ab.Knows.nil)
noncomputable def env0 : Ab.Env := { env with ext := orExt (memo known0) env.ext }
set_option maxRecDepth 100000 in
theorem table0 : Ab.Table Tryd.prog mu env0 := table.orMemo knows0
set_option maxRecDepth 100000 in
theorem core0 : Cps.HasC env0 where
  good := ⟨rfl, rfl, fun _ => rfl⟩
  good1 := ⟨rfl, rfl, fun _ => rfl⟩
  kids := ⟨rfl, rfl, fun _ => rfl⟩
  con := ⟨rfl, rfl, fun _ => rfl⟩
  idx := ⟨rfl, rfl, fun _ => rfl⟩
  size := ⟨rfl, rfl, fun _ => rfl⟩
  Good := ⟨rfl, rfl, fun _ => rfl⟩
set_option maxRecDepth 100000 in
theorem value0 : Cps.HasV env0 where
  kind := ⟨rfl, rfl, fun _ => rfl⟩
  has := ⟨rfl, rfl, fun _ => rfl⟩
  good := ⟨rfl, rfl, fun _ => rfl⟩
  good1 := ⟨rfl, rfl, fun _ => rfl⟩
  con := ⟨rfl, rfl, fun _ => rfl⟩
  idx := ⟨rfl, rfl, fun _ => rfl⟩
  Good := ⟨rfl, rfl, fun _ => rfl⟩
  core := core0
set_option maxRecDepth 100000 in
theorem flat0 : Cps.HasF env0 where
  kids := ⟨rfl, rfl, fun _ => rfl⟩
  flat := ⟨rfl, rfl, fun _ => rfl⟩
  Flat := ⟨rfl, rfl, fun _ => rfl⟩
  Len := ⟨rfl, rfl, fun _ => rfl⟩
theorem bulk0 {H : Type} : Bulk (Rows.uptoBulk (H := H)) Rows.uptoBulkAll where
  one d := by cases d with
    | lit l => cases l <;> simp [Rows.uptoBulk]
    | _ => simp [Rows.uptoBulk]
  str s := by simp [Rows.uptoBulk]
  sl e s := by simp [Rows.uptoBulk]
  agg l := by simp [Rows.uptoBulk]
  nil := by simp [Rows.uptoBulkAll]
  cons d l := by simp [Rows.uptoBulkAll]
set_option maxRecDepth 100000 in
theorem has0 : Cps.HasRo env0 where
  law := ⟨rfl, rfl, fun _ => rfl⟩
  rawake := rfl
  awake := (Ans.ext (by kernel_rfl)).lim
  big := ⟨rfl, rfl, fun _ => rfl⟩
  wide := ⟨rfl, rfl, fun _ => rfl⟩
  seq := ⟨rfl, rfl, fun _ => rfl⟩
  row := ⟨rfl, rfl, fun _ => rfl⟩
  o := ⟨⟨rfl, rfl, fun _ => rfl⟩, value0, ⟨⟨rfl, rfl, fun _ => rfl⟩, ⟨rfl, rfl, fun _ => rfl⟩⟩⟩
  f := flat0
  g := ⟨⟨rfl, rfl, fun _ => rfl⟩, ⟨rfl, rfl, fun _ => rfl⟩, ⟨rfl, rfl, fun _ => rfl⟩, ⟨rfl, rfl, fun _ => rfl⟩, ⟨rfl, rfl, fun _ => rfl⟩⟩
end Go.Proofs.YtlhfndoldaokhaaDoor.Mach
