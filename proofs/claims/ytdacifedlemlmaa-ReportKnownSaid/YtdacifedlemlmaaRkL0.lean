/- What is known so far. Printed by a program of the prover's own. -/
import Derived.Test.YtdacifedlemlmaaRkK1
import Derived.Test.YtdacifedlemlmaaRkK2
import Derived.Test.YtdacifedlemlmaaRkK3
import Derived.Test.YtdacifedlemlmaaRkK4
import Derived.Test.YtdacifedlemlmaaRkCode
namespace Go.Proofs.Ytdacifedlemlmaa.Mach
open Go Ab
def known0 : List (FuncId × List PV × List PV) := [(30, a1, r1), (30, a2, r2), (30, a3, r3), (30, a4, r4), (30, a5, r5), (30, a6, r6), (30, a7, r7), (30, a8, r8), (30, a9, r9), (34, a10, r10), (29, a11, r11), (30, a12, r12), (30, a13, r13), (30, a14, r14), (30, a15, r15), (30, a16, r16), (30, a17, r17), (30, a18, r18), (30, a19, r19), (30, a20, r20), (30, a21, r21), (16, a22, r22), (16, a23, r23), (30, a24, r24), (30, a25, r25), (30, a26, r26), (30, a27, r27), (30, a28, r28), (30, a29, r29), (30, a30, r30), (30, a31, r31), (30, a32, r32), (30, a33, r33), (30, a34, r34), (30, a35, r35), (30, a36, r36), (30, a37, r37), (28, a38, r38), (28, a39, r39), (30, a40, r40), (30, a41, r41), (30, a42, r42), (30, a43, r43), (33, a44, r44), (16, a45, r45), (16, a46, r46)]
set_option maxRecDepth 100000 in
theorem knows0 : Knows Try.prog known0 := (.cons k1 (.cons k2 (.cons k3 (.cons k4 (.cons k5 (.cons k6 (.cons k7 (.cons k8 (.cons k9 (.cons k10 (.cons k11 (.cons k12 (.cons k13 (.cons k14 (.cons k15 (.cons k16 (.cons k17 (.cons k18 (.cons k19 (.cons k20 (.cons k21 (.cons k22 (.cons k23 (.cons k24 (.cons k25 (.cons k26 (.cons k27 (.cons k28 (.cons k29 (.cons k30 (.cons k31 (.cons k32 (.cons k33 (.cons k34 (.cons k35 (.cons k36 (.cons k37 (.cons k38 (.cons k39 (.cons k40 (.cons k41 (.cons k42 (.cons k43 (.cons k44 (.cons k45 (.cons k46 Ab.Knows.nil))))))))))))))))))))))))))))))))))))))))))))))
noncomputable def env0 : Ab.Env := { env with ext := orExt (memo known0) env.ext }
set_option maxRecDepth 100000 in
theorem table0 : Ab.Table Try.prog mu env0 := table.orMemo knows0
end Go.Proofs.Ytdacifedlemlmaa.Mach
