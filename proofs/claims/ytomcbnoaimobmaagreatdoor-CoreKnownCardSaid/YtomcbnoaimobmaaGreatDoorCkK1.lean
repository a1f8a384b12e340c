/- Answers, worked out. Printed by a program of the prover's own. -/
import Derived.Test.YtomcbnoaimobmaaGreatDoorCkCode
namespace Go.Proofs.YtomcbnoaimobmaaGreatDoor.Mach
open Go Ab
def a1 : List PV := [(.agg [(.int .u64 0), (.int .u64 25769803776), (.int .u64 0), (.int .u64 0)])]
def r1 : List PV := [(.sl [(.int .u8 97), (.int .u8 98)])]
theorem run1 : (frun env 600).p 87 a1 = some r1 := by kernel_rfl
set_option maxRecDepth 100000 in
theorem k1 : AnsOk Tryz.prog 87 a1 r1 := known table (frun_p run1)
def a2 : List PV := [(.str [40, 97, 41, 123, 50, 125])]
def r2 : List PV := [(.agg [(.bool false), (.bool false), (.int .i64 4), (.int .u64 0), (.int .u64 0), (.int .u64 0), (.int .u64 0), (.int .i64 2), (.int .i64 2), (.int .i64 0), (.sl [(.agg [(.int .i64 5), (.int .u64 0), (.int .u64 0), (.int .u64 0), (.int .u64 0), (.int .i64 0), (.int .i64 0), (.int .i64 1), (.sl [(.agg [(.int .i64 1), (.int .u64 0), (.int .u64 8589934592), (.int .u64 0), (.int .u64 0), (.int .i64 0), (.int .i64 0), (.int .i64 0), (.sl [])])])])]), (.int .i64 1)]), (.int .i64 6), (.int .i64 0)]
theorem run2 : (frun env 600).p 44 a2 = some r2 := by kernel_rfl
set_option maxRecDepth 100000 in
theorem k2 : AnsOk Tryz.prog 44 a2 r2 := known table (frun_p run2)
def a3 : List PV := [(.str [40, 63, 58, 97, 123, 50, 48, 48, 125, 41, 123, 50, 48, 48, 125])]
def r3 : List PV := [(.sl [(.agg [(.int .i64 3), (.int .u64 0), (.int .u64 0), (.int .u64 0), (.int .u64 0), (.int .i64 0), (.int .i64 0), (.int .i64 0)]), (.agg [(.int .i64 1), (.int .u64 0), (.int .u64 8589934592), (.int .u64 0), (.int .u64 0), (.int .i64 0), (.int .i64 0), (.int .i64 3)]), (.agg [(.int .i64 6), (.int .u64 0), (.int .u64 0), (.int .u64 0), (.int .u64 0), (.int .i64 200), (.int .i64 200), (.int .i64 4)]), (.agg [(.int .i64 4), (.int .u64 0), (.int .u64 0), (.int .u64 0), (.int .u64 0), (.int .i64 0), (.int .i64 0), (.int .i64 9)]), (.agg [(.int .i64 6), (.int .u64 0), (.int .u64 0), (.int .u64 0), (.int .u64 0), (.int .i64 200), (.int .i64 200), (.int .i64 10)])]), (.int .i64 15), (.int .i64 0)]
theorem run3 : (frun env 600).p 81 a3 = some r3 := by kernel_rfl
set_option maxRecDepth 100000 in
theorem k3 : AnsOk Tryz.prog 81 a3 r3 := known table (frun_p run3)
def a4 : List PV := [(.agg [(.bool false), (.bool false), (.int .i64 2), (.int .u64 0), (.int .u64 0), (.int .u64 0), (.int .u64 0), (.int .i64 0), (.int .i64 0), (.int .i64 0), (.sl [(.agg [(.int .i64 5), (.int .u64 0), (.int .u64 0), (.int .u64 0), (.int .u64 0), (.int .i64 0), (.int .i64 0), (.int .i64 1), (.sl [(.agg [(.int .i64 1), (.int .u64 0), (.int .u64 8589934592), (.int .u64 0), (.int .u64 0), (.int .i64 0), (.int .i64 0), (.int .i64 0), (.sl [])])])]), (.agg [(.int .i64 5), (.int .u64 0), (.int .u64 0), (.int .u64 0), (.int .u64 0), (.int .i64 0), (.int .i64 0), (.int .i64 2), (.sl [(.agg [(.int .i64 1), (.int .u64 0), (.int .u64 17179869184), (.int .u64 0), (.int .u64 0), (.int .i64 0), (.int .i64 0), (.int .i64 0), (.sl [])])])])]), (.int .i64 2)])]
def r4 : List PV := [(.bool true)]
theorem run4 : (frun env 600).p 50 a4 = some r4 := by kernel_rfl
set_option maxRecDepth 100000 in
theorem k4 : AnsOk Tryz.prog 50 a4 r4 := known table (frun_p run4)
end Go.Proofs.YtomcbnoaimobmaaGreatDoor.Mach
