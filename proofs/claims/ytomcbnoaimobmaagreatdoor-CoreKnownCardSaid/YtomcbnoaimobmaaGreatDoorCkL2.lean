/- What is known so far. Printed by a program of the prover's own. -/
import Derived.Test.YtomcbnoaimobmaaGreatDoorCkK1
import Derived.Test.YtomcbnoaimobmaaGreatDoorCkK2
import Derived.Test.YtomcbnoaimobmaaGreatDoorCkK3
import Derived.Test.YtomcbnoaimobmaaGreatDoorCkK4
import Derived.Test.YtomcbnoaimobmaaGreatDoorCkK5
import Derived.Test.YtomcbnoaimobmaaGreatDoorCkK6
import Derived.Test.YtomcbnoaimobmaaGreatDoorCkK7
import Derived.Test.YtomcbnoaimobmaaGreatDoorCkK8
import Derived.Test.YtomcbnoaimobmaaGreatDoorCkK9
import Derived.Test.YtomcbnoaimobmaaGreatDoorCkK10
import Derived.Test.YtomcbnoaimobmaaGreatDoorCkK11
import Derived.Test.YtomcbnoaimobmaaGreatDoorCkK12
import Derived.Test.YtomcbnoaimobmaaGreatDoorCkCode
namespace Go.Proofs.YtomcbnoaimobmaaGreatDoor.Mach
open Go Ab
def known2 : List (FuncId × List PV × List PV) := [(87, a1, r1), (44, a2, r2), (81, a3, r3), (50, a4, r4), (87, a5, r5), (87, a6, r6), (87, a7, r7), (90, a8, r8), (89, a9, r9), (87, a10, r10), (90, a11, r11), (13, a12, r12), (8, a13, r13), (8, a14, r14), (11, a15, r15), (44, a16, r16), (50, a17, r17), (8, a18, r18), (8, a19, r19), (44, a20, r20), (44, a21, r21), (44, a22, r22), (50, a23, r23), (11, a24, r24), (8, a25, r25), (11, a26, r26), (50, a27, r27), (50, a28, r28), (8, a29, r29), (44, a30, r30), (8, a31, r31), (11, a32, r32), (8, a33, r33), (8, a34, r34), (8, a35, r35), (8, a36, r36), (8, a37, r37), (44, a38, r38), (8, a39, r39), (8, a40, r40), (8, a41, r41), (8, a42, r42), (8, a43, r43), (8, a44, r44), (44, a45, r45)]
set_option maxRecDepth 100000 in
theorem knows2 : Knows Tryz.prog known2 := (.cons k1 (.cons k2 (.cons k3 (.cons k4 (.cons k5 (.cons k6 (.cons k7 (.cons k8 (.cons k9 (.cons k10 (.cons k11 (.cons k12 (.cons k13 (.cons k14 (.cons k15 (.cons k16 (.cons k17 (.cons k18 (.cons k19 (.cons k20 (.cons k21 (.cons k22 (.cons k23 (.cons k24 (.cons k25 (.cons k26 (.cons k27 (.cons k28 (.cons k29 (.cons k30 (.cons k31 (.cons k32 (.cons k33 (.cons k34 (.cons k35 (.cons k36 (.cons k37 (.cons k38 (.cons k39 (.cons k40 (.cons k41 (.cons k42 (.cons k43 (.cons k44 (.cons k45 Ab.Knows.nil)))))))))))))))))))))))))))))))))))))))))))))
noncomputable def env2 : Ab.Env := { env with ext := orExt (memo known2) env.ext }
set_option maxRecDepth 100000 in
theorem table2 : Ab.Table Tryz.prog mu env2 := table.orMemo knows2
end Go.Proofs.YtomcbnoaimobmaaGreatDoor.Mach
