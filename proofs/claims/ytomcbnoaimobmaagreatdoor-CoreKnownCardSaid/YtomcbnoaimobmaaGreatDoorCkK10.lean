/- Answers, worked out. Printed by a program of the prover's own. -/
import Derived.Test.YtomcbnoaimobmaaGreatDoorCkL1
namespace Go.Proofs.YtomcbnoaimobmaaGreatDoor.Mach
open Go Ab
def a37 : List PV := [(.str [97, 123, 49, 44, 51, 125])]
def r37 : List PV := [(.str [40, 60, 54, 49, 62, 46, 40, 40, 40, 126, 60, 54, 49, 62, 41, 46, 40, 40, 126, 60, 54, 49, 62, 41, 124, 49, 41, 41, 124, 49, 41, 41])]
theorem run37 : (frun env1 600).p 8 a37 = some r37 := by kernel_rfl
set_option maxRecDepth 100000 in
theorem k37 : AnsOk Tryz.prog 8 a37 r37 := known table1 (frun_p run37)
def a38 : List PV := [(.str [40, 63, 58, 97, 124, 98, 41, 42])]
def r38 : List PV := [(.agg [(.bool false), (.bool false), (.int .i64 4), (.int .u64 0), (.int .u64 0), (.int .u64 0), (.int .u64 0), (.int .i64 0), (.int .i64 (-1)), (.int .i64 0), (.sl [(.agg [(.int .i64 6), (.int .u64 0), (.int .u64 0), (.int .u64 0), (.int .u64 0), (.int .i64 0), (.int .i64 0), (.int .i64 0), (.sl [(.agg [(.int .i64 3), (.int .u64 0), (.int .u64 0), (.int .u64 0), (.int .u64 0), (.int .i64 0), (.int .i64 0), (.int .i64 0), (.sl [(.agg [(.int .i64 1), (.int .u64 0), (.int .u64 8589934592), (.int .u64 0), (.int .u64 0), (.int .i64 0), (.int .i64 0), (.int .i64 0), (.sl [])]), (.agg [(.int .i64 1), (.int .u64 0), (.int .u64 17179869184), (.int .u64 0), (.int .u64 0), (.int .i64 0), (.int .i64 0), (.int .i64 0), (.sl [])])])])])])]), (.int .i64 0)]), (.int .i64 8), (.int .i64 0)]
theorem run38 : (frun env1 600).p 44 a38 = some r38 := by kernel_rfl
set_option maxRecDepth 100000 in
theorem k38 : AnsOk Tryz.prog 44 a38 r38 := known table1 (frun_p run38)
def a39 : List PV := [(.str [97, 63])]
def r39 : List PV := [(.str [40, 60, 54, 49, 62, 124, 49, 41])]
theorem run39 : (frun env1 600).p 8 a39 = some r39 := by kernel_rfl
set_option maxRecDepth 100000 in
theorem k39 : AnsOk Tryz.prog 8 a39 r39 := known table1 (frun_p run39)
end Go.Proofs.YtomcbnoaimobmaaGreatDoor.Mach
