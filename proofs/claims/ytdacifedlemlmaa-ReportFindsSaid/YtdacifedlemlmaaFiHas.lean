/- FiHas: steps, walks, laws: see the remarks within. -/
import Derived.Test.YtdacifedlemlmaaFiK1
import Derived.Test.YtdacifedlemlmaaFiB
import Derived.Test.YtdacifedlemlmaaFiC
set_option linter.unusedSimpArgs false
set_option linter.unusedVariables false
-- The law's functions, as the seat has them; what is known ahead.
namespace Go.Proofs.Ytdacifedlemlmaa.Mach
open Go Ab
set_option maxRecDepth 100000 in
def known0 : List (FuncId × List PV × List PV) := [(12, a1, r1)]
set_option maxRecDepth 100000 in
theorem knows0 : Knows Try.prog known0 := (.cons k1 Ab.Knows.nil)
noncomputable def env0 : Ab.Env := { env with ext := orExt (memo known0) env.ext }
set_option maxRecDepth 100000 in
theorem table0 : Ab.Table Try.prog mu env0 := table.orMemo knows0
set_option maxRecDepth 100000 in
theorem has0 : Rp.HasFi env0 where
  law := ⟨rfl, rfl, fun _ => rfl⟩
  rawake := rfl
  awake := (Ans.ext (by kernel_rfl)).lim
  wide := ⟨rfl, rfl, fun _ => rfl⟩
  of := ⟨rfl, rfl, fun _ => rfl⟩
  ratio := ⟨rfl, rfl, fun _ => rfl⟩
  same := ⟨rfl, rfl, fun _ => rfl⟩
  eq := ⟨rfl, rfl, fun _ => rfl⟩
  good := ⟨rfl, rfl, fun _ => rfl⟩
  nan := ⟨rfl, rfl, fun _ => rfl⟩
  isnan := ⟨rfl, rfl, fun _ => rfl⟩
  rbits := rfl
  bits := fun n => (Ans.ext rfl).lim
end Go.Proofs.Ytdacifedlemlmaa.Mach
