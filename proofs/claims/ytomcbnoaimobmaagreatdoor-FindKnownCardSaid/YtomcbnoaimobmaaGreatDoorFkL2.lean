/- What is known so far. Printed by a program of the prover's own. -/
import Derived.Test.YtomcbnoaimobmaaGreatDoorFkK1
import Derived.Test.YtomcbnoaimobmaaGreatDoorFkK2
import Derived.Test.YtomcbnoaimobmaaGreatDoorFkK3
import Derived.Test.YtomcbnoaimobmaaGreatDoorFkK4
import Derived.Test.YtomcbnoaimobmaaGreatDoorFkK5
import Derived.Test.YtomcbnoaimobmaaGreatDoorFkK6
import Derived.Test.YtomcbnoaimobmaaGreatDoorFkK7
import Derived.Test.YtomcbnoaimobmaaGreatDoorFkK8
import Derived.Test.YtomcbnoaimobmaaGreatDoorFkK9
import Derived.Test.YtomcbnoaimobmaaGreatDoorFkCode
namespace Go.Proofs.YtomcbnoaimobmaaGreatDoor.Mach
open Go Ab
def known2 : List (FuncId × List PV × List PV) := [(187, a1, r1), (10, a2, r2), (187, a3, r3), (228, a4, r4), (21, a5, r5), (21, a6, r6), (21, a7, r7), (10, a8, r8), (228, a9, r9), (10, a10, r10), (10, a11, r11), (96, a12, r12), (138, a13, r13), (138, a14, r14), (138, a15, r15), (138, a16, r16), (138, a17, r17), (59, a18, r18), (59, a19, r19), (102, a20, r20), (59, a21, r21), (98, a22, r22), (102, a23, r23), (22, a24, r24), (59, a25, r25), (20, a26, r26), (98, a27, r27), (102, a28, r28), (193, a29, r29), (22, a30, r30), (59, a31, r31), (25, a32, r32), (98, a33, r33), (102, a34, r34), (193, a35, r35), (22, a36, r36), (156, a37, r37), (20, a38, r38), (59, a39, r39), (59, a40, r40), (59, a41, r41), (59, a42, r42), (156, a43, r43), (59, a44, r44), (23, a45, r45), (156, a46, r46), (20, a47, r47), (23, a48, r48), (20, a49, r49), (20, a50, r50), (20, a51, r51)]
set_option maxRecDepth 100000 in
theorem knows2 : Knows Tryz.prog known2 := (.cons k1 (.cons k2 (.cons k3 (.cons k4 (.cons k5 (.cons k6 (.cons k7 (.cons k8 (.cons k9 (.cons k10 (.cons k11 (.cons k12 (.cons k13 (.cons k14 (.cons k15 (.cons k16 (.cons k17 (.cons k18 (.cons k19 (.cons k20 (.cons k21 (.cons k22 (.cons k23 (.cons k24 (.cons k25 (.cons k26 (.cons k27 (.cons k28 (.cons k29 (.cons k30 (.cons k31 (.cons k32 (.cons k33 (.cons k34 (.cons k35 (.cons k36 (.cons k37 (.cons k38 (.cons k39 (.cons k40 (.cons k41 (.cons k42 (.cons k43 (.cons k44 (.cons k45 (.cons k46 (.cons k47 (.cons k48 (.cons k49 (.cons k50 (.cons k51 Ab.Knows.nil)))))))))))))))))))))))))))))))))))))))))))))))))))
noncomputable def env2 : Ab.Env := { env with ext := orExt (memo known2) env.ext }
set_option maxRecDepth 100000 in
theorem table2 : Ab.Table Tryz.prog mu env2 := table.orMemo knows2
end Go.Proofs.YtomcbnoaimobmaaGreatDoor.Mach
