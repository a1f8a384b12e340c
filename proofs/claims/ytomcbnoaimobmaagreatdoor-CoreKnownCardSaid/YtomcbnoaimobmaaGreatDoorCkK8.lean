/- Answers, worked out. Printed by a program of the prover's own. -/
import Derived.Test.YtomcbnoaimobmaaGreatDoorCkL0
namespace Go.Proofs.YtomcbnoaimobmaaGreatDoor.Mach
open Go Ab
def a29 : List PV := [(.str [97, 42])]
def r29 : List PV := [(.str [40, 60, 54, 49, 62, 42, 41])]
theorem run29 : (frun env0 600).p 8 a29 = some r29 := by kernel_rfl
set_option maxRecDepth 100000 in
theorem k29 : AnsOk Tryz.prog 8 a29 r29 := known table0 (frun_p run29)
def a30 : List PV := [(.str [40, 97, 41, 40, 98, 41])]
def r30 : List PV := [(.agg [(.bool false), (.bool false), (.int .i64 2), (.int .u64 0), (.int .u64 0), (.int .u64 0), (.int .u64 0), (.int .i64 0), (.int .i64 0), (.int .i64 0), (.sl [(.agg [(.int .i64 5), (.int .u64 0), (.int .u64 0), (.int .u64 0), (.int .u64 0), (.int .i64 0), (.int .i64 0), (.int .i64 1), (.sl [(.agg [(.int .i64 1), (.int .u64 0), (.int .u64 8589934592), (.int .u64 0), (.int .u64 0), (.int .i64 0), (.int .i64 0), (.int .i64 0), (.sl [])])])]), (.agg [(.int .i64 5), (.int .u64 0), (.int .u64 0), (.int .u64 0), (.int .u64 0), (.int .i64 0), (.int .i64 0), (.int .i64 2), (.sl [(.agg [(.int .i64 1), (.int .u64 0), (.int .u64 17179869184), (.int .u64 0), (.int .u64 0), (.int .i64 0), (.int .i64 0), (.int .i64 0), (.sl [])])])])]), (.int .i64 2)]), (.int .i64 6), (.int .i64 0)]
theorem run30 : (frun env0 600).p 44 a30 = some r30 := by kernel_rfl
set_option maxRecDepth 100000 in
theorem k30 : AnsOk Tryz.prog 44 a30 r30 := known table0 (frun_p run30)
def a31 : List PV := [(.str [97, 123, 48, 125])]
def r31 : List PV := [(.str [49])]
theorem run31 : (frun env0 600).p 8 a31 = some r31 := by kernel_rfl
set_option maxRecDepth 100000 in
theorem k31 : AnsOk Tryz.prog 8 a31 r31 := known table0 (frun_p run31)
def a32 : List PV := [(.agg [(.int .i64 3), (.int .u64 0), (.int .u64 0), (.int .u64 0), (.int .u64 0), (.int .i64 0), (.sl [(.agg [(.int .i64 2), (.int .u64 0), (.int .u64 8589934592), (.int .u64 0), (.int .u64 0), (.int .i64 0), (.sl [])]), (.agg [(.int .i64 3), (.int .u64 0), (.int .u64 0), (.int .u64 0), (.int .u64 0), (.int .i64 0), (.sl [(.agg [(.int .i64 7), (.int .u64 0), (.int .u64 0), (.int .u64 0), (.int .u64 0), (.int .i64 0), (.sl [(.agg [(.int .i64 2), (.int .u64 0), (.int .u64 8589934592), (.int .u64 0), (.int .u64 0), (.int .i64 0), (.sl [])])])]), (.agg [(.int .i64 7), (.int .u64 0), (.int .u64 0), (.int .u64 0), (.int .u64 0), (.int .i64 0), (.sl [(.agg [(.int .i64 2), (.int .u64 0), (.int .u64 8589934592), (.int .u64 0), (.int .u64 0), (.int .i64 0), (.sl [])])])])])])])])]
def r32 : List PV := [(.str [40, 60, 54, 49, 62, 46, 40, 40, 126, 60, 54, 49, 62, 41, 46, 40, 126, 60, 54, 49, 62, 41, 41, 41])]
theorem run32 : (frun env0 600).p 11 a32 = some r32 := by kernel_rfl
set_option maxRecDepth 100000 in
theorem k32 : AnsOk Tryz.prog 11 a32 r32 := known table0 (frun_p run32)
def a33 : List PV := [(.str [97])]
def r33 : List PV := [(.str [60, 54, 49, 62])]
theorem run33 : (frun env0 600).p 8 a33 = some r33 := by kernel_rfl
set_option maxRecDepth 100000 in
theorem k33 : AnsOk Tryz.prog 8 a33 r33 := known table0 (frun_p run33)
end Go.Proofs.YtomcbnoaimobmaaGreatDoor.Mach
