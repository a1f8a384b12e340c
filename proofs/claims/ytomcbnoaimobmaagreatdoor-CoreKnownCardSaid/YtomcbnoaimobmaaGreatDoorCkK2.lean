/- Answers, worked out. Printed by a program of the prover's own. -/
import Derived.Test.YtomcbnoaimobmaaGreatDoorCkCode
namespace Go.Proofs.YtomcbnoaimobmaaGreatDoor.Mach
open Go Ab
def a5 : List PV := [(.agg [(.int .u64 0), (.int .u64 8589934592), (.int .u64 0), (.int .u64 0)])]
def r5 : List PV := [(.sl [(.int .u8 97)])]
theorem run5 : (frun env 600).p 87 a5 = some r5 := by kernel_rfl
set_option maxRecDepth 100000 in
theorem k5 : AnsOk Tryz.prog 87 a5 r5 := known table (frun_p run5)
def a6 : List PV := [(.agg [(.int .u64 0), (.int .u64 0), (.int .u64 0), (.int .u64 0)])]
def r6 : List PV := [(.sl [])]
theorem run6 : (frun env 600).p 87 a6 = some r6 := by kernel_rfl
set_option maxRecDepth 100000 in
theorem k6 : AnsOk Tryz.prog 87 a6 r6 := known table (frun_p run6)
end Go.Proofs.YtomcbnoaimobmaaGreatDoor.Mach
