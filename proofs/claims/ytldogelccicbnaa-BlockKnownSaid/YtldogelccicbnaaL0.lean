/- What is known so far. Printed by a program of the prover's own. -/
import Derived.Test.YtldogelccicbnaaK1
import Derived.Test.YtldogelccicbnaaK2
import Derived.Test.YtldogelccicbnaaK3
import Derived.Test.YtldogelccicbnaaK4
import Derived.Test.YtldogelccicbnaaK5
import Derived.Test.YtldogelccicbnaaK6
import Derived.Test.YtldogelccicbnaaK7
import Derived.Test.YtldogelccicbnaaCode
namespace Go.Proofs.Ytldogelccicbnaa.Mach
open Go Ab
def known0 : List (FuncId × List PV × List PV) := [(27, a1, r1), (27, a2, r2), (27, a3, r3), (27, a4, r4), (27, a5, r5), (27, a6, r6), (27, a7, r7)]
theorem knows0 : Knows Try.prog known0 := (.cons k1 (.cons k2 (.cons k3 (.cons k4 (.cons k5 (.cons k6 (.cons k7 Ab.Knows.nil)))))))
noncomputable def env0 : Ab.Env := { env with ext := orExt (memo known0) env.ext }
theorem table0 : Ab.Table Try.prog mu env0 := table.orMemo knows0
end Go.Proofs.Ytldogelccicbnaa.Mach
