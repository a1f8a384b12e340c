/- What is known so far. Printed by a program of the prover's own. -/
import Derived.Test.YtldogelccicbnaaDoorCkK1
import Derived.Test.YtldogelccicbnaaDoorCkK2
import Derived.Test.YtldogelccicbnaaDoorCkK3
import Derived.Test.YtldogelccicbnaaDoorCkCode
namespace Go.Proofs.YtldogelccicbnaaDoor.Mach
open Go Ab
def known0 : List (FuncId × List PV × List PV) := [(101, a1, r1), (40, a2, r2), (39, a3, r3), (39, a4, r4), (39, a5, r5), (38, a6, r6), (38, a7, r7), (44, a8, r8), (44, a9, r9), (41, a10, r10), (39, a11, r11), (39, a12, r12), (39, a13, r13), (37, a14, r14), (40, a15, r15), (42, a16, r16), (39, a17, r17), (39, a18, r18), (42, a19, r19), (39, a20, r20)]
set_option maxRecDepth 100000 in
theorem knows0 : Knows Tryd.prog known0 := (.cons k1 (.cons k2 (.cons k3 (.cons k4 (.cons k5 (.cons k6 (.cons k7 (.cons k8 (.cons k9 (.cons k10 (.cons k11 (.cons k12 (.cons k13 (.cons k14 (.cons k15 (.cons k16 (.cons k17 (.cons k18 (.cons k19 (.cons k20 Ab.Knows.nil))))))))))))))))))))
noncomputable def env0 : Ab.Env := { env with ext := orExt (memo known0) env.ext }
set_option maxRecDepth 100000 in
theorem table0 : Ab.Table Tryd.prog mu env0 := table.orMemo knows0
end Go.Proofs.YtldogelccicbnaaDoor.Mach
