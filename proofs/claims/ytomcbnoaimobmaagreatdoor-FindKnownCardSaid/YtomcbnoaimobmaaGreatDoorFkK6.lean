/- Answers, worked out. Printed by a program of the prover's own. -/
import Derived.Test.YtomcbnoaimobmaaGreatDoorFkL1
namespace Go.Proofs.YtomcbnoaimobmaaGreatDoor.Mach
open Go Ab
def a37 : List PV := [(.agg [(.int .i64 4), (.int .u64 0), (.int .u64 0), (.int .u64 0), (.int .u64 0), (.int .i64 0), (.sl [(.agg [(.int .i64 6), (.int .u64 0), (.int .u64 0), (.int .u64 0), (.int .u64 0), (.int .i64 1), (.sl [(.agg [(.int .i64 2), (.int .u64 0), (.int .u64 8589934592), (.int .u64 0), (.int .u64 0), (.int .i64 0), (.sl [])])])]), (.agg [(.int .i64 3), (.int .u64 0), (.int .u64 0), (.int .u64 0), (.int .u64 0), (.int .i64 0), (.sl [(.agg [(.int .i64 2), (.int .u64 0), (.int .u64 8589934592), (.int .u64 0), (.int .u64 0), (.int .i64 0), (.sl [])]), (.agg [(.int .i64 6), (.int .u64 0), (.int .u64 0), (.int .u64 0), (.int .u64 0), (.int .i64 2), (.sl [(.agg [(.int .i64 2), (.int .u64 0), (.int .u64 17179869184), (.int .u64 0), (.int .u64 0), (.int .i64 0), (.sl [])])])])])])])]), (.sl [(.int .u8 97), (.int .u8 98)]), (.bool true)]
def r37 : List PV := [(.int .i64 2), (.agg [(.int .i64 5), (.int .u8 0), (.sl [(.agg [(.int .i64 3), (.int .u8 0), (.sl [(.agg [(.int .i64 2), (.int .u8 97), (.sl [])]), (.agg [(.int .i64 7), (.int .u8 0), (.sl [(.agg [(.int .i64 2), (.int .u8 98), (.sl [])])])])])])])]), (.int .i64 0)]
theorem run37 : (frun env1 600).p 156 a37 = some r37 := by kernel_rfl
set_option maxRecDepth 100000 in
theorem k37 : AnsOk Tryz.prog 156 a37 r37 := known table1 (frun_p run37)
def a38 : List PV := [(.agg [(.int .i64 4), (.int .u64 0), (.int .u64 0), (.int .u64 0), (.int .u64 0), (.int .i64 0), (.sl [(.agg [(.int .i64 6), (.int .u64 0), (.int .u64 0), (.int .u64 0), (.int .u64 0), (.int .i64 1), (.sl [(.agg [(.int .i64 2), (.int .u64 0), (.int .u64 8589934592), (.int .u64 0), (.int .u64 0), (.int .i64 0), (.sl [])])])]), (.agg [(.int .i64 3), (.int .u64 0), (.int .u64 0), (.int .u64 0), (.int .u64 0), (.int .i64 0), (.sl [(.agg [(.int .i64 2), (.int .u64 0), (.int .u64 8589934592), (.int .u64 0), (.int .u64 0), (.int .i64 0), (.sl [])]), (.agg [(.int .i64 6), (.int .u64 0), (.int .u64 0), (.int .u64 0), (.int .u64 0), (.int .i64 2), (.sl [(.agg [(.int .i64 2), (.int .u64 0), (.int .u64 17179869184), (.int .u64 0), (.int .u64 0), (.int .i64 0), (.sl [])])])])])])]), (.bool false), (.bool false), (.int .i64 2), (.int .i64 0), (.int .i64 1)]), (.sl [(.int .u8 97), (.int .u8 98), (.int .u8 120)])]
def r38 : List PV := [(.agg [(.int .i64 0), (.int .i64 2), (.int .i64 5), (.int .u8 0), (.sl [(.agg [(.int .i64 3), (.int .u8 0), (.sl [(.agg [(.int .i64 2), (.int .u8 97), (.sl [])]), (.agg [(.int .i64 7), (.int .u8 0), (.sl [(.agg [(.int .i64 2), (.int .u8 98), (.sl [])])])])])])]), (.sl [(.agg [(.int .i64 0), (.int .i64 2)]), (.agg [(.int .i64 (-1)), (.int .i64 (-1))]), (.agg [(.int .i64 1), (.int .i64 2)])])]), (.int .i64 0)]
theorem run38 : (frun env1 600).p 20 a38 = some r38 := by kernel_rfl
set_option maxRecDepth 100000 in
theorem k38 : AnsOk Tryz.prog 20 a38 r38 := known table1 (frun_p run38)
def a39 : List PV := [(.agg [(.int .i64 5), (.int .u64 0), (.int .u64 0), (.int .u64 0), (.int .u64 0), (.int .i64 0), (.sl [(.agg [(.int .i64 2), (.int .u64 0), (.int .u64 8589934592), (.int .u64 0), (.int .u64 0), (.int .i64 0), (.sl [])])]), (.bool false), (.bool false), (.int .i64 0), (.int .i64 0), (.int .i64 3)]), (.sl [(.int .u8 98), (.int .u8 97), (.int .u8 97)]), (.int .i64 0)]
def r39 : List PV := [(.int .i64 0), (.agg [(.int .i64 6), (.int .u8 0), (.sl [])]), (.int .i64 0)]
theorem run39 : (frun env1 600).p 59 a39 = some r39 := by kernel_rfl
set_option maxRecDepth 100000 in
theorem k39 : AnsOk Tryz.prog 59 a39 r39 := known table1 (frun_p run39)
def a40 : List PV := [(.agg [(.int .i64 5), (.int .u64 0), (.int .u64 0), (.int .u64 0), (.int .u64 0), (.int .i64 0), (.sl [(.agg [(.int .i64 2), (.int .u64 0), (.int .u64 8589934592), (.int .u64 0), (.int .u64 0), (.int .i64 0), (.sl [])])]), (.bool false), (.bool false), (.int .i64 0), (.int .i64 0), (.int .i64 3)]), (.sl [(.int .u8 97), (.int .u8 97)]), (.int .i64 2)]
def r40 : List PV := [(.int .i64 2), (.agg [(.int .i64 6), (.int .u8 0), (.sl [(.agg [(.int .i64 2), (.int .u8 97), (.sl [])]), (.agg [(.int .i64 2), (.int .u8 97), (.sl [])])])]), (.int .i64 0)]
theorem run40 : (frun env1 600).p 59 a40 = some r40 := by kernel_rfl
set_option maxRecDepth 100000 in
theorem k40 : AnsOk Tryz.prog 59 a40 r40 := known table1 (frun_p run40)
def a41 : List PV := [(.agg [(.int .i64 5), (.int .u64 0), (.int .u64 0), (.int .u64 0), (.int .u64 0), (.int .i64 0), (.sl [(.agg [(.int .i64 2), (.int .u64 0), (.int .u64 8589934592), (.int .u64 0), (.int .u64 0), (.int .i64 0), (.sl [])])]), (.bool false), (.bool false), (.int .i64 0), (.int .i64 0), (.int .i64 3)]), (.sl []), (.int .i64 0)]
def r41 : List PV := [(.int .i64 0), (.agg [(.int .i64 6), (.int .u8 0), (.sl [])]), (.int .i64 0)]
theorem run41 : (frun env1 600).p 59 a41 = some r41 := by kernel_rfl
set_option maxRecDepth 100000 in
theorem k41 : AnsOk Tryz.prog 59 a41 r41 := known table1 (frun_p run41)
def a42 : List PV := [(.agg [(.int .i64 5), (.int .u64 0), (.int .u64 0), (.int .u64 0), (.int .u64 0), (.int .i64 0), (.sl [(.agg [(.int .i64 2), (.int .u64 0), (.int .u64 8589934592), (.int .u64 0), (.int .u64 0), (.int .i64 0), (.sl [])])]), (.bool false), (.bool false), (.int .i64 0), (.int .i64 0), (.int .i64 3)]), (.sl [(.int .u8 97), (.int .u8 97), (.int .u8 98), (.int .u8 97), (.int .u8 97)]), (.int .i64 2)]
def r42 : List PV := [(.int .i64 2), (.agg [(.int .i64 6), (.int .u8 0), (.sl [(.agg [(.int .i64 2), (.int .u8 97), (.sl [])]), (.agg [(.int .i64 2), (.int .u8 97), (.sl [])])])]), (.int .i64 0)]
theorem run42 : (frun env1 600).p 59 a42 = some r42 := by kernel_rfl
set_option maxRecDepth 100000 in
theorem k42 : AnsOk Tryz.prog 59 a42 r42 := known table1 (frun_p run42)
end Go.Proofs.YtomcbnoaimobmaaGreatDoor.Mach
