/- Answers, worked out. Printed by a program of the prover's own. -/
import Derived.Test.YtomcbnoaimobmaaGreatDoorFkL1
namespace Go.Proofs.YtomcbnoaimobmaaGreatDoor.Mach
open Go Ab
def a43 : List PV := [(.agg [(.int .i64 4), (.int .u64 0), (.int .u64 0), (.int .u64 0), (.int .u64 0), (.int .i64 0), (.sl [(.agg [(.int .i64 6), (.int .u64 0), (.int .u64 0), (.int .u64 0), (.int .u64 0), (.int .i64 1), (.sl [(.agg [(.int .i64 2), (.int .u64 0), (.int .u64 8589934592), (.int .u64 0), (.int .u64 0), (.int .i64 0), (.sl [])])])]), (.agg [(.int .i64 3), (.int .u64 0), (.int .u64 0), (.int .u64 0), (.int .u64 0), (.int .i64 0), (.sl [(.agg [(.int .i64 2), (.int .u64 0), (.int .u64 8589934592), (.int .u64 0), (.int .u64 0), (.int .i64 0), (.sl [])]), (.agg [(.int .i64 6), (.int .u64 0), (.int .u64 0), (.int .u64 0), (.int .u64 0), (.int .i64 2), (.sl [(.agg [(.int .i64 2), (.int .u64 0), (.int .u64 17179869184), (.int .u64 0), (.int .u64 0), (.int .i64 0), (.sl [])])])])])])])]), (.sl [(.int .u8 97), (.int .u8 98), (.int .u8 120)]), (.bool false)]
def r43 : List PV := [(.int .i64 1), (.agg [(.int .i64 4), (.int .u8 0), (.sl [(.agg [(.int .i64 7), (.int .u8 0), (.sl [(.agg [(.int .i64 2), (.int .u8 97), (.sl [])])])])])]), (.int .i64 0)]
theorem run43 : (frun env1 600).p 156 a43 = some r43 := by kernel_rfl
set_option maxRecDepth 100000 in
theorem k43 : AnsOk Tryz.prog 156 a43 r43 := known table1 (frun_p run43)
def a44 : List PV := [(.agg [(.int .i64 4), (.int .u64 0), (.int .u64 0), (.int .u64 0), (.int .u64 0), (.int .i64 0), (.sl [(.agg [(.int .i64 6), (.int .u64 0), (.int .u64 0), (.int .u64 0), (.int .u64 0), (.int .i64 1), (.sl [(.agg [(.int .i64 2), (.int .u64 0), (.int .u64 8589934592), (.int .u64 0), (.int .u64 0), (.int .i64 0), (.sl [])])])]), (.agg [(.int .i64 3), (.int .u64 0), (.int .u64 0), (.int .u64 0), (.int .u64 0), (.int .i64 0), (.sl [(.agg [(.int .i64 2), (.int .u64 0), (.int .u64 8589934592), (.int .u64 0), (.int .u64 0), (.int .i64 0), (.sl [])]), (.agg [(.int .i64 6), (.int .u64 0), (.int .u64 0), (.int .u64 0), (.int .u64 0), (.int .i64 2), (.sl [(.agg [(.int .i64 2), (.int .u64 0), (.int .u64 17179869184), (.int .u64 0), (.int .u64 0), (.int .i64 0), (.sl [])])])])])])]), (.bool false), (.bool false), (.int .i64 2), (.int .i64 1), (.int .i64 0)]), (.sl [(.int .u8 97), (.int .u8 98)]), (.int .i64 2)]
def r44 : List PV := [(.int .i64 2), (.agg [(.int .i64 5), (.int .u8 0), (.sl [(.agg [(.int .i64 3), (.int .u8 0), (.sl [(.agg [(.int .i64 2), (.int .u8 97), (.sl [])]), (.agg [(.int .i64 7), (.int .u8 0), (.sl [(.agg [(.int .i64 2), (.int .u8 98), (.sl [])])])])])])])]), (.int .i64 0)]
theorem run44 : (frun env1 600).p 59 a44 = some r44 := by kernel_rfl
set_option maxRecDepth 100000 in
theorem k44 : AnsOk Tryz.prog 59 a44 r44 := known table1 (frun_p run44)
def a45 : List PV := [(.agg [(.int .i64 2), (.int .u64 0), (.int .u64 8589934592), (.int .u64 0), (.int .u64 0), (.int .i64 0), (.sl []), (.bool true), (.bool false), (.int .i64 0), (.int .i64 0), (.int .i64 3)]), (.sl [(.int .u8 97), (.int .u8 97)]), (.int .i64 10)]
def r45 : List PV := [(.sl [(.agg [(.int .i64 0), (.int .i64 1), (.int .i64 2), (.int .u8 97), (.sl []), (.sl [(.agg [(.int .i64 0), (.int .i64 1)])])])]), (.int .i64 0)]
theorem run45 : (frun env1 600).p 23 a45 = some r45 := by kernel_rfl
set_option maxRecDepth 100000 in
theorem k45 : AnsOk Tryz.prog 23 a45 r45 := known table1 (frun_p run45)
end Go.Proofs.YtomcbnoaimobmaaGreatDoor.Mach
