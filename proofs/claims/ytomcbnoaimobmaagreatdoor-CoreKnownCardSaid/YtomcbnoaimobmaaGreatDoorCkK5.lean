/- Answers, worked out. Printed by a program of the prover's own. -/
import Derived.Test.YtomcbnoaimobmaaGreatDoorCkL0
namespace Go.Proofs.YtomcbnoaimobmaaGreatDoor.Mach
open Go Ab
def a13 : List PV := [(.str [40, 97, 41, 123, 50, 125])]
def r13 : List PV := [(.str [40, 40, 49, 58, 60, 54, 49, 62, 41, 46, 40, 126, 40, 49, 58, 60, 54, 49, 62, 41, 41, 41])]
theorem run13 : (frun env0 600).p 8 a13 = some r13 := by kernel_rfl
set_option maxRecDepth 100000 in
theorem k13 : AnsOk Tryz.prog 8 a13 r13 := known table0 (frun_p run13)
def a14 : List PV := [(.str [40, 63, 58, 97, 41])]
def r14 : List PV := [(.str [60, 54, 49, 62])]
theorem run14 : (frun env0 600).p 8 a14 = some r14 := by kernel_rfl
set_option maxRecDepth 100000 in
theorem k14 : AnsOk Tryz.prog 8 a14 r14 := known table0 (frun_p run14)
def a15 : List PV := [(.agg [(.int .i64 4), (.int .u64 0), (.int .u64 0), (.int .u64 0), (.int .u64 0), (.int .i64 0), (.sl [(.agg [(.int .i64 3), (.int .u64 0), (.int .u64 0), (.int .u64 0), (.int .u64 0), (.int .i64 0), (.sl [(.agg [(.int .i64 2), (.int .u64 0), (.int .u64 8589934592), (.int .u64 0), (.int .u64 0), (.int .i64 0), (.sl [])]), (.agg [(.int .i64 4), (.int .u64 0), (.int .u64 0), (.int .u64 0), (.int .u64 0), (.int .i64 0), (.sl [(.agg [(.int .i64 7), (.int .u64 0), (.int .u64 0), (.int .u64 0), (.int .u64 0), (.int .i64 0), (.sl [(.agg [(.int .i64 2), (.int .u64 0), (.int .u64 8589934592), (.int .u64 0), (.int .u64 0), (.int .i64 0), (.sl [])])])]), (.agg [(.int .i64 1), (.int .u64 0), (.int .u64 0), (.int .u64 0), (.int .u64 0), (.int .i64 0), (.sl [])])])])])]), (.agg [(.int .i64 1), (.int .u64 0), (.int .u64 0), (.int .u64 0), (.int .u64 0), (.int .i64 0), (.sl [])])])])]
def r15 : List PV := [(.str [40, 40, 60, 54, 49, 62, 46, 40, 40, 126, 60, 54, 49, 62, 41, 124, 49, 41, 41, 124, 49, 41])]
theorem run15 : (frun env0 600).p 11 a15 = some r15 := by kernel_rfl
set_option maxRecDepth 100000 in
theorem k15 : AnsOk Tryz.prog 11 a15 r15 := known table0 (frun_p run15)
def a16 : List PV := [(.str [97, 43])]
def r16 : List PV := [(.agg [(.bool false), (.bool false), (.int .i64 4), (.int .u64 0), (.int .u64 0), (.int .u64 0), (.int .u64 0), (.int .i64 1), (.int .i64 (-1)), (.int .i64 0), (.sl [(.agg [(.int .i64 1), (.int .u64 0), (.int .u64 8589934592), (.int .u64 0), (.int .u64 0), (.int .i64 0), (.int .i64 0), (.int .i64 0), (.sl [])])]), (.int .i64 0)]), (.int .i64 2), (.int .i64 0)]
theorem run16 : (frun env0 600).p 44 a16 = some r16 := by kernel_rfl
set_option maxRecDepth 100000 in
theorem k16 : AnsOk Tryz.prog 44 a16 r16 := known table0 (frun_p run16)
def a17 : List PV := [(.agg [(.bool false), (.bool false), (.int .i64 2), (.int .u64 0), (.int .u64 0), (.int .u64 0), (.int .u64 0), (.int .i64 0), (.int .i64 0), (.int .i64 0), (.sl [(.agg [(.int .i64 1), (.int .u64 0), (.int .u64 8589934592), (.int .u64 0), (.int .u64 0), (.int .i64 0), (.int .i64 0), (.int .i64 0), (.sl [])]), (.agg [(.int .i64 1), (.int .u64 0), (.int .u64 17179869184), (.int .u64 0), (.int .u64 0), (.int .i64 0), (.int .i64 0), (.int .i64 0), (.sl [])]), (.agg [(.int .i64 1), (.int .u64 0), (.int .u64 34359738368), (.int .u64 0), (.int .u64 0), (.int .i64 0), (.int .i64 0), (.int .i64 0), (.sl [])])]), (.int .i64 0)])]
def r17 : List PV := [(.bool true)]
theorem run17 : (frun env0 600).p 50 a17 = some r17 := by kernel_rfl
set_option maxRecDepth 100000 in
theorem k17 : AnsOk Tryz.prog 50 a17 r17 := known table0 (frun_p run17)
end Go.Proofs.YtomcbnoaimobmaaGreatDoor.Mach
