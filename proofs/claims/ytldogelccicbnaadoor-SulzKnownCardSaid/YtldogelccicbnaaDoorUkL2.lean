/- What is known so far. Printed by a program of the prover's own. -/
import Derived.Test.YtldogelccicbnaaDoorUkK1
import Derived.Test.YtldogelccicbnaaDoorUkK2
import Derived.Test.YtldogelccicbnaaDoorUkK3
import Derived.Test.YtldogelccicbnaaDoorUkK4
import Derived.Test.YtldogelccicbnaaDoorUkK5
import Derived.Test.YtldogelccicbnaaDoorUkK6
import Derived.Test.YtldogelccicbnaaDoorUkK7
import Derived.Test.YtldogelccicbnaaDoorUkK8
import Derived.Test.YtldogelccicbnaaDoorUkCode
namespace Go.Proofs.YtldogelccicbnaaDoor.Mach
open Go Ab
def known2 : List (FuncId × List PV × List PV) := [(72, a1, r1), (39, a2, r2), (9, a3, r3), (40, a4, r4), (76, a5, r5), (76, a6, r6), (72, a7, r7), (39, a8, r8), (76, a9, r9), (40, a10, r10), (35, a11, r11), (40, a12, r12), (39, a13, r13), (56, a14, r14), (9, a15, r15), (36, a16, r16), (54, a17, r17), (72, a18, r18), (40, a19, r19), (39, a20, r20), (39, a21, r21), (34, a22, r22), (68, a23, r23), (9, a24, r24), (9, a25, r25), (9, a26, r26), (65, a27, r27), (40, a28, r28), (9, a29, r29), (9, a30, r30), (65, a31, r31), (40, a32, r32), (44, a33, r33), (9, a34, r34), (9, a35, r35), (9, a36, r36), (39, a37, r37), (33, a38, r38), (33, a39, r39), (34, a40, r40)]
set_option maxRecDepth 100000 in
theorem knows2 : Knows Tryd.prog known2 := (.cons k1 (.cons k2 (.cons k3 (.cons k4 (.cons k5 (.cons k6 (.cons k7 (.cons k8 (.cons k9 (.cons k10 (.cons k11 (.cons k12 (.cons k13 (.cons k14 (.cons k15 (.cons k16 (.cons k17 (.cons k18 (.cons k19 (.cons k20 (.cons k21 (.cons k22 (.cons k23 (.cons k24 (.cons k25 (.cons k26 (.cons k27 (.cons k28 (.cons k29 (.cons k30 (.cons k31 (.cons k32 (.cons k33 (.cons k34 (.cons k35 (.cons k36 (.cons k37 (.cons k38 (.cons k39 (.cons k40 Ab.Knows.nil))))))))))))))))))))))))))))))))))))))))
noncomputable def env2 : Ab.Env := { env with ext := orExt (memo known2) env.ext }
set_option maxRecDepth 100000 in
theorem table2 : Ab.Table Tryd.prog mu env2 := table.orMemo knows2
end Go.Proofs.YtldogelccicbnaaDoor.Mach
