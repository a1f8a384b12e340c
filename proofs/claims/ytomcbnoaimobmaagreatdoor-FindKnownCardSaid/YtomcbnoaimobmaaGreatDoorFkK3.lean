/- Answers, worked out. Printed by a program of the prover's own. -/
import Derived.Test.YtomcbnoaimobmaaGreatDoorFkL0
namespace Go.Proofs.YtomcbnoaimobmaaGreatDoor.Mach
open Go Ab
def a21 : List PV := [(.agg [(.int .i64 4), (.int .u64 0), (.int .u64 0), (.int .u64 0), (.int .u64 0), (.int .i64 0), (.sl [(.agg [(.int .i64 6), (.int .u64 0), (.int .u64 0), (.int .u64 0), (.int .u64 0), (.int .i64 1), (.sl [(.agg [(.int .i64 2), (.int .u64 0), (.int .u64 8589934592), (.int .u64 0), (.int .u64 0), (.int .i64 0), (.sl [])])])]), (.agg [(.int .i64 3), (.int .u64 0), (.int .u64 0), (.int .u64 0), (.int .u64 0), (.int .i64 0), (.sl [(.agg [(.int .i64 2), (.int .u64 0), (.int .u64 8589934592), (.int .u64 0), (.int .u64 0), (.int .i64 0), (.sl [])]), (.agg [(.int .i64 6), (.int .u64 0), (.int .u64 0), (.int .u64 0), (.int .u64 0), (.int .i64 2), (.sl [(.agg [(.int .i64 2), (.int .u64 0), (.int .u64 17179869184), (.int .u64 0), (.int .u64 0), (.int .i64 0), (.sl [])])])])])])]), (.bool false), (.bool false), (.int .i64 2), (.int .i64 0), (.int .i64 0)]), (.sl [(.int .u8 97), (.int .u8 98)]), (.int .i64 2)]
def r21 : List PV := [(.int .i64 2), (.agg [(.int .i64 5), (.int .u8 0), (.sl [(.agg [(.int .i64 3), (.int .u8 0), (.sl [(.agg [(.int .i64 2), (.int .u8 97), (.sl [])]), (.agg [(.int .i64 7), (.int .u8 0), (.sl [(.agg [(.int .i64 2), (.int .u8 98), (.sl [])])])])])])])]), (.int .i64 0)]
theorem run21 : (frun env0 600).p 59 a21 = some r21 := by kernel_rfl
set_option maxRecDepth 100000 in
theorem k21 : AnsOk Tryz.prog 59 a21 r21 := known table0 (frun_p run21)
def a22 : List PV := [(.agg [(.int .i64 5), (.int .u64 0), (.int .u64 0), (.int .u64 0), (.int .u64 0), (.int .i64 0), (.sl [(.agg [(.int .i64 2), (.int .u64 0), (.int .u64 8589934592), (.int .u64 0), (.int .u64 0), (.int .i64 0), (.sl [])])])]), (.sl [(.int .u8 97), (.int .u8 97)])]
def r22 : List PV := [(.agg [(.int .i64 6), (.int .u8 0), (.sl [(.agg [(.int .i64 2), (.int .u8 97), (.sl [])]), (.agg [(.int .i64 2), (.int .u8 97), (.sl [])])])]), (.int .i64 0)]
theorem run22 : (frun env0 600).p 98 a22 = some r22 := by kernel_rfl
set_option maxRecDepth 100000 in
theorem k22 : AnsOk Tryz.prog 98 a22 r22 := known table0 (frun_p run22)
def a23 : List PV := [(.agg [(.int .i64 5), (.int .u64 0), (.int .u64 0), (.int .u64 0), (.int .u64 0), (.int .i64 0), (.sl [(.agg [(.int .i64 2), (.int .u64 0), (.int .u64 8589934592), (.int .u64 0), (.int .u64 0), (.int .i64 0), (.sl [])])])]), (.agg [(.int .i64 6), (.int .u8 0), (.sl [(.agg [(.int .i64 2), (.int .u8 97), (.sl [])]), (.agg [(.int .i64 2), (.int .u8 97), (.sl [])])])])]
def r23 : List PV := [(.bool true)]
theorem run23 : (frun env0 600).p 102 a23 = some r23 := by kernel_rfl
set_option maxRecDepth 100000 in
theorem k23 : AnsOk Tryz.prog 102 a23 r23 := known table0 (frun_p run23)
def a24 : List PV := [(.agg [(.int .i64 5), (.int .u64 0), (.int .u64 0), (.int .u64 0), (.int .u64 0), (.int .i64 0), (.sl [(.agg [(.int .i64 2), (.int .u64 0), (.int .u64 8589934592), (.int .u64 0), (.int .u64 0), (.int .i64 0), (.sl [])])]), (.bool false), (.bool false), (.int .i64 0), (.int .i64 0), (.int .i64 3)])]
def r24 : List PV := [(.bool true)]
theorem run24 : (frun env0 600).p 22 a24 = some r24 := by kernel_rfl
set_option maxRecDepth 100000 in
theorem k24 : AnsOk Tryz.prog 22 a24 r24 := known table0 (frun_p run24)
end Go.Proofs.YtomcbnoaimobmaaGreatDoor.Mach
