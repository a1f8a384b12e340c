/- What is known so far. Printed by a program of the prover's own. -/
import Derived.Test.YtomcbnoaimobmaaGreatDoorCkK1
import Derived.Test.YtomcbnoaimobmaaGreatDoorCkK2
import Derived.Test.YtomcbnoaimobmaaGreatDoorCkK3
import Derived.Test.YtomcbnoaimobmaaGreatDoorCkK4
import Derived.Test.YtomcbnoaimobmaaGreatDoorCkCode
namespace Go.Proofs.YtomcbnoaimobmaaGreatDoor.Mach
open Go Ab
def known0 : List (FuncId × List PV × List PV) := [(87, a1, r1), (44, a2, r2), (81, a3, r3), (50, a4, r4), (87, a5, r5), (87, a6, r6), (87, a7, r7), (90, a8, r8), (89, a9, r9), (87, a10, r10), (90, a11, r11), (13, a12, r12)]
set_option maxRecDepth 100000 in
theorem knows0 : Knows Tryz.prog known0 := (.cons k1 (.cons k2 (.cons k3 (.cons k4 (.cons k5 (.cons k6 (.cons k7 (.cons k8 (.cons k9 (.cons k10 (.cons k11 (.cons k12 Ab.Knows.nil))))))))))))
noncomputable def env0 : Ab.Env := { env with ext := orExt (memo known0) env.ext }
set_option maxRecDepth 100000 in
theorem table0 : Ab.Table Tryz.prog mu env0 := table.orMemo knows0
end Go.Proofs.YtomcbnoaimobmaaGreatDoor.Mach
