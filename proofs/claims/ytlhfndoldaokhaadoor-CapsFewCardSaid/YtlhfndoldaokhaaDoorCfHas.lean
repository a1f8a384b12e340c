/- The law's functions, as the seat has them; what is known ahead. -/
import Derived.Test.YtlhfndoldaokhaaDoorCfK1
import Derived.Test.YtlhfndoldaokhaaDoorCpOf
import Derived.Test.YtlhfndoldaokhaaDoorCpArg
set_option linter.unusedSimpArgs false
set_option linter.unusedVariables false
namespace Go.Proofs.YtlhfndoldaokhaaDoor.Mach
open Go Ab
set_option maxRecDepth 100000 in
def known0 : List (FuncId × List PV × List PV) := [(22, a1, r1)]
set_option maxRecDepth 100000 in
theorem knows0 : Knows Tryd.prog known0 := (.cons k1 Ab.Knows.nil)
noncomputable def env0 : Ab.Env := { env with ext := orExt (memo known0) env.ext }
set_option maxRecDepth 100000 in
theorem table0 : Ab.Table Tryd.prog mu env0 := table.orMemo knows0
set_option maxRecDepth 100000 in
theorem core0 : Cps.HasC env0 where
  good := ⟨rfl, rfl, fun _ => rfl⟩
  good1 := ⟨rfl, rfl, fun _ => rfl⟩
  kids := ⟨rfl, rfl, fun _ => rfl⟩
  con := ⟨rfl, rfl, fun _ => rfl⟩
  idx := ⟨rfl, rfl, fun _ => rfl⟩
  size := ⟨rfl, rfl, fun _ => rfl⟩
  Good := ⟨rfl, rfl, fun _ => rfl⟩
set_option maxRecDepth 100000 in
theorem value0 : Cps.HasV env0 where
  kind := ⟨rfl, rfl, fun _ => rfl⟩
  has := ⟨rfl, rfl, fun _ => rfl⟩
  good := ⟨rfl, rfl, fun _ => rfl⟩
  good1 := ⟨rfl, rfl, fun _ => rfl⟩
  con := ⟨rfl, rfl, fun _ => rfl⟩
  idx := ⟨rfl, rfl, fun _ => rfl⟩
  Good := ⟨rfl, rfl, fun _ => rfl⟩
  core := core0
set_option maxRecDepth 100000 in
theorem has0 : Cps.HasFew env0 where
  law := ⟨rfl, rfl, fun _ => rfl⟩
  rawake := rfl
  awake := (Ans.ext (by kernel_rfl)).lim
  big := ⟨rfl, rfl, fun _ => rfl⟩
  wide := ⟨rfl, rfl, fun _ => rfl⟩
  o := ⟨⟨rfl, rfl, fun _ => rfl⟩, value0, ⟨⟨rfl, rfl, fun _ => rfl⟩, ⟨rfl, rfl, fun _ => rfl⟩⟩⟩
end Go.Proofs.YtlhfndoldaokhaaDoor.Mach
