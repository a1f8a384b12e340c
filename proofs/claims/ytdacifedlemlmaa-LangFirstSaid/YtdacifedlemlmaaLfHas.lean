/- The law's functions, as the seat has them; what is known ahead. -/
import Derived.Test.YtdacifedlemlmaaLsK1
import Derived.Test.YtdacifedlemlmaaLfFirst
import Derived.Test.YtdacifedlemlmaaLfArg
set_option linter.unusedSimpArgs false
set_option linter.unusedVariables false
namespace Go.Proofs.Ytdacifedlemlmaa.Mach
open Go Ab
set_option maxRecDepth 100000 in
def known0 : List (FuncId × List PV × List PV) := [(17, a1, r1)]
set_option maxRecDepth 100000 in
theorem knows0 : Knows Try.prog known0 := (.cons k1 Ab.Knows.nil)
noncomputable def env0 : Ab.Env := { env with ext := orExt (memo known0) env.ext }
set_option maxRecDepth 100000 in
theorem table0 : Ab.Table Try.prog mu env0 := table.orMemo knows0
set_option maxRecDepth 100000 in
theorem core0 : Cps.HasC env0 where
  good := ⟨rfl, rfl, fun _ => rfl⟩
  good1 := ⟨rfl, rfl, fun _ => rfl⟩
  kids := ⟨rfl, rfl, fun _ => rfl⟩
  con := ⟨rfl, rfl, fun _ => rfl⟩
  idx := ⟨rfl, rfl, fun _ => rfl⟩
  size := ⟨rfl, rfl, fun _ => rfl⟩
  Good := ⟨rfl, rfl, fun _ => rfl⟩
set_option maxRecDepth 100000 in
theorem row0 : Lng.HasW env0 where
  row := ⟨rfl, rfl, fun _ => rfl⟩
  p := ⟨⟨rfl, rfl, fun _ => rfl⟩, ⟨rfl, rfl, fun _ => rfl⟩, ⟨rfl, rfl, fun _ => rfl⟩⟩
  has := ⟨rfl, rfl, fun _ => rfl⟩
set_option maxRecDepth 100000 in
theorem says0 : Lng.HasY env0 where
  w := row0
  t := ⟨⟨rfl, rfl, fun _ => rfl⟩, ⟨rfl, rfl, fun _ => rfl⟩⟩
  c := core0
  tsays := ⟨rfl, rfl, fun _ => rfl⟩
  says := ⟨rfl, rfl, fun _ => rfl⟩
  ends := ⟨rfl, rfl, fun _ => rfl⟩
  null := ⟨rfl, rfl, fun _ => rfl⟩
  Null := ⟨rfl, rfl, fun _ => rfl⟩
  ints := ⟨rfl, rfl, fun _ => rfl⟩
  star := ⟨rfl, rfl, fun _ => rfl⟩
  seq := ⟨rfl, rfl, fun _ => rfl⟩
set_option maxRecDepth 100000 in
theorem words0 : Lng.HasW4 env0 where
  ones := ⟨rfl, rfl, fun _ => rfl⟩
  len := ⟨rfl, rfl, fun _ => rfl⟩
  or := ⟨rfl, rfl, fun _ => rfl⟩
set_option maxRecDepth 100000 in
theorem has0 : Lng.HasFirst env0 where
  w := words0
  w2 := ⟨rfl, rfl, fun _ => rfl⟩
  y := says0
  sm := ⟨rfl, rfl, fun _ => rfl⟩
  first := ⟨rfl, rfl, fun _ => rfl⟩
  First := ⟨rfl, rfl, fun _ => rfl⟩
  law := ⟨rfl, rfl, fun _ => rfl⟩
  rawake := rfl
  awake := (Ans.ext (by kernel_rfl)).lim
  big := ⟨rfl, rfl, fun _ => rfl⟩
end Go.Proofs.Ytdacifedlemlmaa.Mach
