/- What is known so far. Printed by a program of the prover's own. -/
import Derived.Test.YtomcbnoaimobmaaGreatDoorFkK1
import Derived.Test.YtomcbnoaimobmaaGreatDoorFkCode
namespace Go.Proofs.YtomcbnoaimobmaaGreatDoor.Mach
open Go Ab
def known0 : List (FuncId × List PV × List PV) := [(187, a1, r1), (10, a2, r2), (187, a3, r3), (228, a4, r4), (21, a5, r5), (21, a6, r6), (21, a7, r7), (10, a8, r8), (228, a9, r9), (10, a10, r10), (10, a11, r11), (96, a12, r12), (138, a13, r13), (138, a14, r14), (138, a15, r15), (138, a16, r16), (138, a17, r17)]
set_option maxRecDepth 100000 in
theorem knows0 : Knows Tryz.prog known0 := (.cons k1 (.cons k2 (.cons k3 (.cons k4 (.cons k5 (.cons k6 (.cons k7 (.cons k8 (.cons k9 (.cons k10 (.cons k11 (.cons k12 (.cons k13 (.cons k14 (.cons k15 (.cons k16 (.cons k17 Ab.Knows.nil)))))))))))))))))
noncomputable def env0 : Ab.Env := { env with ext := orExt (memo known0) env.ext }
set_option maxRecDepth 100000 in
theorem table0 : Ab.Table Tryz.prog mu env0 := table.orMemo knows0
end Go.Proofs.YtomcbnoaimobmaaGreatDoor.Mach
