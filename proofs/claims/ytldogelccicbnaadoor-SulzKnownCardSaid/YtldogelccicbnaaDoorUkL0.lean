/- What is known so far. Printed by a program of the prover's own. -/
import Derived.Test.YtldogelccicbnaaDoorUkK1
import Derived.Test.YtldogelccicbnaaDoorUkK2
import Derived.Test.YtldogelccicbnaaDoorUkK3
import Derived.Test.YtldogelccicbnaaDoorUkK4
import Derived.Test.YtldogelccicbnaaDoorUkCode
namespace Go.Proofs.YtldogelccicbnaaDoor.Mach
open Go Ab
def known0 : List (FuncId × List PV × List PV) := [(72, a1, r1), (39, a2, r2), (9, a3, r3), (40, a4, r4), (76, a5, r5), (76, a6, r6), (72, a7, r7), (39, a8, r8), (76, a9, r9), (40, a10, r10), (35, a11, r11), (40, a12, r12), (39, a13, r13), (56, a14, r14), (9, a15, r15), (36, a16, r16), (54, a17, r17), (72, a18, r18), (40, a19, r19), (39, a20, r20), (39, a21, r21), (34, a22, r22), (68, a23, r23)]
set_option maxRecDepth 100000 in
theorem knows0 : Knows Tryd.prog known0 := (.cons k1 (.cons k2 (.cons k3 (.cons k4 (.cons k5 (.cons k6 (.cons k7 (.cons k8 (.cons k9 (.cons k10 (.cons k11 (.cons k12 (.cons k13 (.cons k14 (.cons k15 (.cons k16 (.cons k17 (.cons k18 (.cons k19 (.cons k20 (.cons k21 (.cons k22 (.cons k23 Ab.Knows.nil)))))))))))))))))))))))
noncomputable def env0 : Ab.Env := { env with ext := orExt (memo known0) env.ext }
set_option maxRecDepth 100000 in
theorem table0 : Ab.Table Tryd.prog mu env0 := table.orMemo knows0
end Go.Proofs.YtldogelccicbnaaDoor.Mach
