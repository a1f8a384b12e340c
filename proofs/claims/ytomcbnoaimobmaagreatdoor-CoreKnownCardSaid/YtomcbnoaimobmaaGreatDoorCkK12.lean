/- Answers, worked out. Printed by a program of the prover's own. -/
import Derived.Test.YtomcbnoaimobmaaGreatDoorCkL1
namespace Go.Proofs.YtomcbnoaimobmaaGreatDoor.Mach
open Go Ab
def a43 : List PV := [(.str [97, 123, 50, 44, 125])]
def r43 : List PV := [(.str [40, 60, 54, 49, 62, 46, 40, 40, 126, 60, 54, 49, 62, 41, 46, 40, 40, 126, 60, 54, 49, 62, 41, 42, 41, 41, 41])]
theorem run43 : (frun env1 600).p 8 a43 = some r43 := by kernel_rfl
set_option maxRecDepth 100000 in
theorem k43 : AnsOk Tryz.prog 8 a43 r43 := known table1 (frun_p run43)
def a44 : List PV := [(.str [97, 123, 51, 125])]
def r44 : List PV := [(.str [40, 60, 54, 49, 62, 46, 40, 40, 126, 60, 54, 49, 62, 41, 46, 40, 126, 60, 54, 49, 62, 41, 41, 41])]
theorem run44 : (frun env1 600).p 8 a44 = some r44 := by kernel_rfl
set_option maxRecDepth 100000 in
theorem k44 : AnsOk Tryz.prog 8 a44 r44 := known table1 (frun_p run44)
def a45 : List PV := [(.str [97, 124, 98, 124, 99])]
def r45 : List PV := [(.agg [(.bool false), (.bool false), (.int .i64 3), (.int .u64 0), (.int .u64 0), (.int .u64 0), (.int .u64 0), (.int .i64 0), (.int .i64 0), (.int .i64 0), (.sl [(.agg [(.int .i64 1), (.int .u64 0), (.int .u64 8589934592), (.int .u64 0), (.int .u64 0), (.int .i64 0), (.int .i64 0), (.int .i64 0), (.sl [])]), (.agg [(.int .i64 1), (.int .u64 0), (.int .u64 17179869184), (.int .u64 0), (.int .u64 0), (.int .i64 0), (.int .i64 0), (.int .i64 0), (.sl [])]), (.agg [(.int .i64 1), (.int .u64 0), (.int .u64 34359738368), (.int .u64 0), (.int .u64 0), (.int .i64 0), (.int .i64 0), (.int .i64 0), (.sl [])])]), (.int .i64 0)]), (.int .i64 5), (.int .i64 0)]
theorem run45 : (frun env1 600).p 44 a45 = some r45 := by kernel_rfl
set_option maxRecDepth 100000 in
theorem k45 : AnsOk Tryz.prog 44 a45 r45 := known table1 (frun_p run45)
end Go.Proofs.YtomcbnoaimobmaaGreatDoor.Mach
