/- Answers, worked out. Printed by a program of the prover's own. -/
import Derived.Test.YtomcbnoaimobmaaGreatDoorCkL0
namespace Go.Proofs.YtomcbnoaimobmaaGreatDoor.Mach
open Go Ab
def a24 : List PV := [(.agg [(.int .i64 3), (.int .u64 0), (.int .u64 0), (.int .u64 0), (.int .u64 0), (.int .i64 0), (.sl [(.agg [(.int .i64 2), (.int .u64 0), (.int .u64 8589934592), (.int .u64 0), (.int .u64 0), (.int .i64 0), (.sl [])]), (.agg [(.int .i64 4), (.int .u64 0), (.int .u64 0), (.int .u64 0), (.int .u64 0), (.int .i64 0), (.sl [(.agg [(.int .i64 3), (.int .u64 0), (.int .u64 0), (.int .u64 0), (.int .u64 0), (.int .i64 0), (.sl [(.agg [(.int .i64 7), (.int .u64 0), (.int .u64 0), (.int .u64 0), (.int .u64 0), (.int .i64 0), (.sl [(.agg [(.int .i64 2), (.int .u64 0), (.int .u64 8589934592), (.int .u64 0), (.int .u64 0), (.int .i64 0), (.sl [])])])]), (.agg [(.int .i64 4), (.int .u64 0), (.int .u64 0), (.int .u64 0), (.int .u64 0), (.int .i64 0), (.sl [(.agg [(.int .i64 7), (.int .u64 0), (.int .u64 0), (.int .u64 0), (.int .u64 0), (.int .i64 0), (.sl [(.agg [(.int .i64 2), (.int .u64 0), (.int .u64 8589934592), (.int .u64 0), (.int .u64 0), (.int .i64 0), (.sl [])])])]), (.agg [(.int .i64 1), (.int .u64 0), (.int .u64 0), (.int .u64 0), (.int .u64 0), (.int .i64 0), (.sl [])])])])])]), (.agg [(.int .i64 1), (.int .u64 0), (.int .u64 0), (.int .u64 0), (.int .u64 0), (.int .i64 0), (.sl [])])])])])])]
def r24 : List PV := [(.str [40, 60, 54, 49, 62, 46, 40, 40, 40, 126, 60, 54, 49, 62, 41, 46, 40, 40, 126, 60, 54, 49, 62, 41, 124, 49, 41, 41, 124, 49, 41, 41])]
theorem run24 : (frun env0 600).p 11 a24 = some r24 := by kernel_rfl
set_option maxRecDepth 100000 in
theorem k24 : AnsOk Tryz.prog 11 a24 r24 := known table0 (frun_p run24)
def a25 : List PV := [(.str [97, 123, 49, 125])]
def r25 : List PV := [(.str [60, 54, 49, 62])]
theorem run25 : (frun env0 600).p 8 a25 = some r25 := by kernel_rfl
set_option maxRecDepth 100000 in
theorem k25 : AnsOk Tryz.prog 8 a25 r25 := known table0 (frun_p run25)
def a26 : List PV := [(.agg [(.int .i64 3), (.int .u64 0), (.int .u64 0), (.int .u64 0), (.int .u64 0), (.int .i64 0), (.sl [(.agg [(.int .i64 2), (.int .u64 0), (.int .u64 8589934592), (.int .u64 0), (.int .u64 0), (.int .i64 0), (.sl [])]), (.agg [(.int .i64 3), (.int .u64 0), (.int .u64 0), (.int .u64 0), (.int .u64 0), (.int .i64 0), (.sl [(.agg [(.int .i64 7), (.int .u64 0), (.int .u64 0), (.int .u64 0), (.int .u64 0), (.int .i64 0), (.sl [(.agg [(.int .i64 2), (.int .u64 0), (.int .u64 8589934592), (.int .u64 0), (.int .u64 0), (.int .i64 0), (.sl [])])])]), (.agg [(.int .i64 5), (.int .u64 0), (.int .u64 0), (.int .u64 0), (.int .u64 0), (.int .i64 0), (.sl [(.agg [(.int .i64 7), (.int .u64 0), (.int .u64 0), (.int .u64 0), (.int .u64 0), (.int .i64 0), (.sl [(.agg [(.int .i64 2), (.int .u64 0), (.int .u64 8589934592), (.int .u64 0), (.int .u64 0), (.int .i64 0), (.sl [])])])])])])])])])])]
def r26 : List PV := [(.str [40, 60, 54, 49, 62, 46, 40, 40, 126, 60, 54, 49, 62, 41, 46, 40, 40, 126, 60, 54, 49, 62, 41, 42, 41, 41, 41])]
theorem run26 : (frun env0 600).p 11 a26 = some r26 := by kernel_rfl
set_option maxRecDepth 100000 in
theorem k26 : AnsOk Tryz.prog 11 a26 r26 := known table0 (frun_p run26)
def a27 : List PV := [(.agg [(.bool false), (.bool false), (.int .i64 4), (.int .u64 0), (.int .u64 0), (.int .u64 0), (.int .u64 0), (.int .i64 0), (.int .i64 (-1)), (.int .i64 0), (.sl [(.agg [(.int .i64 6), (.int .u64 0), (.int .u64 0), (.int .u64 0), (.int .u64 0), (.int .i64 0), (.int .i64 0), (.int .i64 0), (.sl [(.agg [(.int .i64 3), (.int .u64 0), (.int .u64 0), (.int .u64 0), (.int .u64 0), (.int .i64 0), (.int .i64 0), (.int .i64 0), (.sl [(.agg [(.int .i64 1), (.int .u64 0), (.int .u64 8589934592), (.int .u64 0), (.int .u64 0), (.int .i64 0), (.int .i64 0), (.int .i64 0), (.sl [])]), (.agg [(.int .i64 1), (.int .u64 0), (.int .u64 17179869184), (.int .u64 0), (.int .u64 0), (.int .i64 0), (.int .i64 0), (.int .i64 0), (.sl [])])])])])])]), (.int .i64 0)])]
def r27 : List PV := [(.bool true)]
theorem run27 : (frun env0 600).p 50 a27 = some r27 := by kernel_rfl
set_option maxRecDepth 100000 in
theorem k27 : AnsOk Tryz.prog 50 a27 r27 := known table0 (frun_p run27)
def a28 : List PV := [(.agg [(.bool false), (.bool false), (.int .i64 3), (.int .u64 0), (.int .u64 0), (.int .u64 0), (.int .u64 0), (.int .i64 0), (.int .i64 0), (.int .i64 0), (.sl [(.agg [(.int .i64 1), (.int .u64 0), (.int .u64 8589934592), (.int .u64 0), (.int .u64 0), (.int .i64 0), (.int .i64 0), (.int .i64 0), (.sl [])]), (.agg [(.int .i64 1), (.int .u64 0), (.int .u64 17179869184), (.int .u64 0), (.int .u64 0), (.int .i64 0), (.int .i64 0), (.int .i64 0), (.sl [])]), (.agg [(.int .i64 1), (.int .u64 0), (.int .u64 34359738368), (.int .u64 0), (.int .u64 0), (.int .i64 0), (.int .i64 0), (.int .i64 0), (.sl [])])]), (.int .i64 0)])]
def r28 : List PV := [(.bool true)]
theorem run28 : (frun env0 600).p 50 a28 = some r28 := by kernel_rfl
set_option maxRecDepth 100000 in
theorem k28 : AnsOk Tryz.prog 50 a28 r28 := known table0 (frun_p run28)
end Go.Proofs.YtomcbnoaimobmaaGreatDoor.Mach
