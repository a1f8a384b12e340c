/- The law's functions, as the seat has them; what is known ahead. -/
import Derived.Test.YtlhfndoldaokhaaDoorSoK1
import Derived.Test.YtlhfndoldaokhaaDoorSoArg
namespace Go.Proofs.YtlhfndoldaokhaaDoor.Mach
open Go Ab
set_option maxRecDepth 100000 in
def known0 : List (FuncId × List PV × List PV) := [(10, a1, r1), (105, a2, r2)]
set_option maxRecDepth 100000 in
theorem knows0 : Knows Tryd.prog known0 := (.cons k1 (.cons k2 Ab.Knows.nil))
noncomputable def env0 : Ab.Env := { env with ext := orExt (memo known0) env.ext }
set_option maxRecDepth 100000 in
theorem table0 : Ab.Table Tryd.prog mu env0 := table.orMemo knows0
set_option maxRecDepth 100000 in
theorem good0 : Cds.HasGood env0 where
  good := ⟨rfl, rfl, fun _ => rfl⟩
  good1 := ⟨rfl, rfl, fun _ => rfl⟩
  trim := ⟨rfl, rfl, fun _ => rfl⟩
  trimL := ⟨rfl, rfl, fun _ => rfl⟩
  trimR := ⟨rfl, rfl, fun _ => rfl⟩
  has := ⟨rfl, rfl, fun _ => rfl⟩
  rset := rfl
  set := (Ans.ext (by kernel_rfl)).lim
  con := ⟨rfl, rfl, fun _ => rfl⟩
  idx := ⟨rfl, rfl, fun _ => rfl⟩
  size := ⟨rfl, rfl, fun _ => rfl⟩
  Good := ⟨rfl, rfl, fun _ => rfl⟩
set_option maxRecDepth 100000 in
theorem has0 : Cds.HasOnce env0 where
  law := ⟨rfl, rfl, fun _ => rfl⟩
  vast := ⟨rfl, rfl, fun _ => rfl⟩
  good := good0
  once := ⟨rfl, rfl, fun _ => rfl⟩
  once1 := ⟨rfl, rfl, fun _ => rfl⟩
  same := ⟨rfl, rfl, fun _ => rfl⟩
  equal := ⟨rfl, rfl, fun _ => rfl⟩
  flat := ⟨rfl, rfl, fun _ => rfl⟩
  fuse := ⟨rfl, rfl, fun _ => rfl⟩
  rawake := rfl
  awake := (Ans.ext (by kernel_rfl)).lim
end Go.Proofs.YtlhfndoldaokhaaDoor.Mach
