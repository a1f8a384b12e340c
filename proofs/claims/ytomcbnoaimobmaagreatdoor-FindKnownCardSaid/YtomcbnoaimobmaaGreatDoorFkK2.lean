/- Answers, worked out. Printed by a program of the prover's own. -/
import Derived.Test.YtomcbnoaimobmaaGreatDoorFkL0
namespace Go.Proofs.YtomcbnoaimobmaaGreatDoor.Mach
open Go Ab
def a18 : List PV := [(.agg [(.int .i64 4), (.int .u64 0), (.int .u64 0), (.int .u64 0), (.int .u64 0), (.int .i64 0), (.sl [(.agg [(.int .i64 6), (.int .u64 0), (.int .u64 0), (.int .u64 0), (.int .u64 0), (.int .i64 1), (.sl [(.agg [(.int .i64 2), (.int .u64 0), (.int .u64 8589934592), (.int .u64 0), (.int .u64 0), (.int .i64 0), (.sl [])])])]), (.agg [(.int .i64 3), (.int .u64 0), (.int .u64 0), (.int .u64 0), (.int .u64 0), (.int .i64 0), (.sl [(.agg [(.int .i64 2), (.int .u64 0), (.int .u64 8589934592), (.int .u64 0), (.int .u64 0), (.int .i64 0), (.sl [])]), (.agg [(.int .i64 6), (.int .u64 0), (.int .u64 0), (.int .u64 0), (.int .u64 0), (.int .i64 2), (.sl [(.agg [(.int .i64 2), (.int .u64 0), (.int .u64 17179869184), (.int .u64 0), (.int .u64 0), (.int .i64 0), (.sl [])])])])])])]), (.bool false), (.bool false), (.int .i64 2), (.int .i64 0), (.int .i64 1)]), (.sl [(.int .u8 97), (.int .u8 98), (.int .u8 120)]), (.int .i64 2)]
def r18 : List PV := [(.int .i64 2), (.agg [(.int .i64 5), (.int .u8 0), (.sl [(.agg [(.int .i64 3), (.int .u8 0), (.sl [(.agg [(.int .i64 2), (.int .u8 97), (.sl [])]), (.agg [(.int .i64 7), (.int .u8 0), (.sl [(.agg [(.int .i64 2), (.int .u8 98), (.sl [])])])])])])])]), (.int .i64 0)]
theorem run18 : (frun env0 600).p 59 a18 = some r18 := by kernel_rfl
set_option maxRecDepth 100000 in
theorem k18 : AnsOk Tryz.prog 59 a18 r18 := known table0 (frun_p run18)
def a19 : List PV := [(.agg [(.int .i64 3), (.int .u64 0), (.int .u64 0), (.int .u64 0), (.int .u64 0), (.int .i64 0), (.sl [(.agg [(.int .i64 2), (.int .u64 0), (.int .u64 8589934592), (.int .u64 0), (.int .u64 0), (.int .i64 0), (.sl [])]), (.agg [(.int .i64 5), (.int .u64 0), (.int .u64 0), (.int .u64 0), (.int .u64 0), (.int .i64 0), (.sl [(.agg [(.int .i64 2), (.int .u64 0), (.int .u64 8589934592), (.int .u64 0), (.int .u64 0), (.int .i64 0), (.sl [])])])])]), (.bool false), (.bool false), (.int .i64 0), (.int .i64 0), (.int .i64 3)]), (.sl [(.int .u8 97), (.int .u8 97), (.int .u8 98)]), (.int .i64 2)]
def r19 : List PV := [(.int .i64 2), (.agg [(.int .i64 3), (.int .u8 0), (.sl [(.agg [(.int .i64 2), (.int .u8 97), (.sl [])]), (.agg [(.int .i64 6), (.int .u8 0), (.sl [(.agg [(.int .i64 2), (.int .u8 97), (.sl [])])])])])]), (.int .i64 0)]
theorem run19 : (frun env0 600).p 59 a19 = some r19 := by kernel_rfl
set_option maxRecDepth 100000 in
theorem k19 : AnsOk Tryz.prog 59 a19 r19 := known table0 (frun_p run19)
def a20 : List PV := [(.agg [(.int .i64 5), (.int .u64 0), (.int .u64 0), (.int .u64 0), (.int .u64 0), (.int .i64 0), (.sl [(.agg [(.int .i64 2), (.int .u64 0), (.int .u64 8589934592), (.int .u64 0), (.int .u64 0), (.int .i64 0), (.sl [])])])]), (.agg [(.int .i64 6), (.int .u8 0), (.sl [])])]
def r20 : List PV := [(.bool true)]
theorem run20 : (frun env0 600).p 102 a20 = some r20 := by kernel_rfl
set_option maxRecDepth 100000 in
theorem k20 : AnsOk Tryz.prog 102 a20 r20 := known table0 (frun_p run20)
end Go.Proofs.YtomcbnoaimobmaaGreatDoor.Mach
