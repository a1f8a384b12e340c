/- Answers, worked out. Printed by a program of the prover's own. -/
import Derived.Test.YtomcbnoaimobmaaGreatDoorCkL0
namespace Go.Proofs.YtomcbnoaimobmaaGreatDoor.Mach
open Go Ab
def a18 : List PV := [(.str [91, 97, 98, 93])]
def r18 : List PV := [(.str [60, 54, 49, 54, 50, 62])]
theorem run18 : (frun env0 600).p 8 a18 = some r18 := by kernel_rfl
set_option maxRecDepth 100000 in
theorem k18 : AnsOk Tryz.prog 8 a18 r18 := known table0 (frun_p run18)
def a19 : List PV := [(.str [97, 123, 48, 44, 48, 125])]
def r19 : List PV := [(.str [49])]
theorem run19 : (frun env0 600).p 8 a19 = some r19 := by kernel_rfl
set_option maxRecDepth 100000 in
theorem k19 : AnsOk Tryz.prog 8 a19 r19 := known table0 (frun_p run19)
def a20 : List PV := [(.str [97, 124, 98])]
def r20 : List PV := [(.agg [(.bool false), (.bool false), (.int .i64 3), (.int .u64 0), (.int .u64 0), (.int .u64 0), (.int .u64 0), (.int .i64 0), (.int .i64 0), (.int .i64 0), (.sl [(.agg [(.int .i64 1), (.int .u64 0), (.int .u64 8589934592), (.int .u64 0), (.int .u64 0), (.int .i64 0), (.int .i64 0), (.int .i64 0), (.sl [])]), (.agg [(.int .i64 1), (.int .u64 0), (.int .u64 17179869184), (.int .u64 0), (.int .u64 0), (.int .i64 0), (.int .i64 0), (.int .i64 0), (.sl [])])]), (.int .i64 0)]), (.int .i64 3), (.int .i64 0)]
theorem run20 : (frun env0 600).p 44 a20 = some r20 := by kernel_rfl
set_option maxRecDepth 100000 in
theorem k20 : AnsOk Tryz.prog 44 a20 r20 := known table0 (frun_p run20)
def a21 : List PV := [(.str [97, 123, 50, 125])]
def r21 : List PV := [(.agg [(.bool false), (.bool false), (.int .i64 4), (.int .u64 0), (.int .u64 0), (.int .u64 0), (.int .u64 0), (.int .i64 2), (.int .i64 2), (.int .i64 0), (.sl [(.agg [(.int .i64 1), (.int .u64 0), (.int .u64 8589934592), (.int .u64 0), (.int .u64 0), (.int .i64 0), (.int .i64 0), (.int .i64 0), (.sl [])])]), (.int .i64 0)]), (.int .i64 4), (.int .i64 0)]
theorem run21 : (frun env0 600).p 44 a21 = some r21 := by kernel_rfl
set_option maxRecDepth 100000 in
theorem k21 : AnsOk Tryz.prog 44 a21 r21 := known table0 (frun_p run21)
def a22 : List PV := [(.str [97, 63])]
def r22 : List PV := [(.agg [(.bool false), (.bool false), (.int .i64 4), (.int .u64 0), (.int .u64 0), (.int .u64 0), (.int .u64 0), (.int .i64 0), (.int .i64 1), (.int .i64 0), (.sl [(.agg [(.int .i64 1), (.int .u64 0), (.int .u64 8589934592), (.int .u64 0), (.int .u64 0), (.int .i64 0), (.int .i64 0), (.int .i64 0), (.sl [])])]), (.int .i64 0)]), (.int .i64 2), (.int .i64 0)]
theorem run22 : (frun env0 600).p 44 a22 = some r22 := by kernel_rfl
set_option maxRecDepth 100000 in
theorem k22 : AnsOk Tryz.prog 44 a22 r22 := known table0 (frun_p run22)
def a23 : List PV := [(.agg [(.bool false), (.bool false), (.int .i64 4), (.int .u64 0), (.int .u64 0), (.int .u64 0), (.int .u64 0), (.int .i64 200), (.int .i64 200), (.int .i64 0), (.sl [(.agg [(.int .i64 6), (.int .u64 0), (.int .u64 0), (.int .u64 0), (.int .u64 0), (.int .i64 0), (.int .i64 0), (.int .i64 0), (.sl [(.agg [(.int .i64 4), (.int .u64 0), (.int .u64 0), (.int .u64 0), (.int .u64 0), (.int .i64 200), (.int .i64 200), (.int .i64 0), (.sl [(.agg [(.int .i64 1), (.int .u64 0), (.int .u64 8589934592), (.int .u64 0), (.int .u64 0), (.int .i64 0), (.int .i64 0), (.int .i64 0), (.sl [])])])])])])]), (.int .i64 0)])]
def r23 : List PV := [(.bool true)]
theorem run23 : (frun env0 600).p 50 a23 = some r23 := by kernel_rfl
set_option maxRecDepth 100000 in
theorem k23 : AnsOk Tryz.prog 50 a23 r23 := known table0 (frun_p run23)
end Go.Proofs.YtomcbnoaimobmaaGreatDoor.Mach
