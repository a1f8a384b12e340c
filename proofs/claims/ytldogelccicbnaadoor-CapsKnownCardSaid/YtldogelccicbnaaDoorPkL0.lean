/- What is known so far. Printed by a program of the prover's own. -/
import Derived.Test.YtldogelccicbnaaDoorPkK1
import Derived.Test.YtldogelccicbnaaDoorPkCode
namespace Go.Proofs.YtldogelccicbnaaDoor.Mach
open Go Ab
def known0 : List (FuncId × List PV × List PV) := [(17, a1, r1), (17, a2, r2), (12, a3, r3), (76, a4, r4)]
set_option maxRecDepth 100000 in
theorem knows0 : Knows Tryd.prog known0 := (.cons k1 (.cons k2 (.cons k3 (.cons k4 Ab.Knows.nil))))
noncomputable def env0 : Ab.Env := { env with ext := orExt (memo known0) env.ext }
set_option maxRecDepth 100000 in
theorem table0 : Ab.Table Tryd.prog mu env0 := table.orMemo knows0
end Go.Proofs.YtldogelccicbnaaDoor.Mach
