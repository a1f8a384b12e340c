/- Answers, worked out. Printed by a program of the prover's own. -/
import Derived.Test.YtomcbnoaimobmaaGreatDoorCkCode
namespace Go.Proofs.YtomcbnoaimobmaaGreatDoor.Mach
open Go Ab
def a7 : List PV := [(.agg [(.int .u64 0), (.int .u64 17179869184), (.int .u64 0), (.int .u64 0)])]
def r7 : List PV := [(.sl [(.int .u8 98)])]
theorem run7 : (frun env 600).p 87 a7 = some r7 := by kernel_rfl
set_option maxRecDepth 100000 in
theorem k7 : AnsOk Tryz.prog 87 a7 r7 := known table (frun_p run7)
def a8 : List PV := [(.int .i64 1), (.int .i64 200), (.int .i64 200)]
def r8 : List PV := [(.int .i64 598)]
theorem run8 : (frun env 600).p 90 a8 = some r8 := by kernel_rfl
set_option maxRecDepth 100000 in
theorem k8 : AnsOk Tryz.prog 90 a8 r8 := known table (frun_p run8)
def a9 : List PV := [(.agg [(.int .i64 1), (.int .u64 0), (.int .u64 8589934592), (.int .u64 0), (.int .u64 0), (.int .i64 0), (.int .i64 0), (.int .i64 0), (.sl [])]), (.int .i64 0)]
def r9 : List PV := [(.int .i64 0), (.bool true)]
theorem run9 : (frun env 600).p 89 a9 = some r9 := by kernel_rfl
set_option maxRecDepth 100000 in
theorem k9 : AnsOk Tryz.prog 89 a9 r9 := known table (frun_p run9)
end Go.Proofs.YtomcbnoaimobmaaGreatDoor.Mach
