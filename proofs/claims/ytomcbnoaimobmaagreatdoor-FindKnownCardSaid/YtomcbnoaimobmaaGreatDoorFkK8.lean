/- Answers, worked out. Printed by a program of the prover's own. -/
import Derived.Test.YtomcbnoaimobmaaGreatDoorFkL1
namespace Go.Proofs.YtomcbnoaimobmaaGreatDoor.Mach
open Go Ab
def a46 : List PV := [(.agg [(.int .i64 4), (.int .u64 0), (.int .u64 0), (.int .u64 0), (.int .u64 0), (.int .i64 0), (.sl [(.agg [(.int .i64 6), (.int .u64 0), (.int .u64 0), (.int .u64 0), (.int .u64 0), (.int .i64 1), (.sl [(.agg [(.int .i64 2), (.int .u64 0), (.int .u64 8589934592), (.int .u64 0), (.int .u64 0), (.int .i64 0), (.sl [])])])]), (.agg [(.int .i64 3), (.int .u64 0), (.int .u64 0), (.int .u64 0), (.int .u64 0), (.int .i64 0), (.sl [(.agg [(.int .i64 2), (.int .u64 0), (.int .u64 8589934592), (.int .u64 0), (.int .u64 0), (.int .i64 0), (.sl [])]), (.agg [(.int .i64 6), (.int .u64 0), (.int .u64 0), (.int .u64 0), (.int .u64 0), (.int .i64 2), (.sl [(.agg [(.int .i64 2), (.int .u64 0), (.int .u64 17179869184), (.int .u64 0), (.int .u64 0), (.int .i64 0), (.sl [])])])])])])])]), (.sl [(.int .u8 97), (.int .u8 98)]), (.bool false)]
def r46 : List PV := [(.int .i64 1), (.agg [(.int .i64 4), (.int .u8 0), (.sl [(.agg [(.int .i64 7), (.int .u8 0), (.sl [(.agg [(.int .i64 2), (.int .u8 97), (.sl [])])])])])]), (.int .i64 0)]
theorem run46 : (frun env1 600).p 156 a46 = some r46 := by kernel_rfl
set_option maxRecDepth 100000 in
theorem k46 : AnsOk Tryz.prog 156 a46 r46 := known table1 (frun_p run46)
def a47 : List PV := [(.agg [(.int .i64 3), (.int .u64 0), (.int .u64 0), (.int .u64 0), (.int .u64 0), (.int .i64 0), (.sl [(.agg [(.int .i64 2), (.int .u64 0), (.int .u64 8589934592), (.int .u64 0), (.int .u64 0), (.int .i64 0), (.sl [])]), (.agg [(.int .i64 5), (.int .u64 0), (.int .u64 0), (.int .u64 0), (.int .u64 0), (.int .i64 0), (.sl [(.agg [(.int .i64 2), (.int .u64 0), (.int .u64 8589934592), (.int .u64 0), (.int .u64 0), (.int .i64 0), (.sl [])])])])]), (.bool false), (.bool false), (.int .i64 0), (.int .i64 0), (.int .i64 3)]), (.sl [(.int .u8 98), (.int .u8 97), (.int .u8 97), (.int .u8 98)])]
def r47 : List PV := [(.agg [(.int .i64 1), (.int .i64 3), (.int .i64 3), (.int .u8 0), (.sl [(.agg [(.int .i64 2), (.int .u8 97), (.sl [])]), (.agg [(.int .i64 6), (.int .u8 0), (.sl [(.agg [(.int .i64 2), (.int .u8 97), (.sl [])])])])]), (.sl [(.agg [(.int .i64 1), (.int .i64 3)])])]), (.int .i64 0)]
theorem run47 : (frun env1 600).p 20 a47 = some r47 := by kernel_rfl
set_option maxRecDepth 100000 in
theorem k47 : AnsOk Tryz.prog 20 a47 r47 := known table1 (frun_p run47)
def a48 : List PV := [(.agg [(.int .i64 2), (.int .u64 0), (.int .u64 8589934592), (.int .u64 0), (.int .u64 0), (.int .i64 0), (.sl []), (.bool false), (.bool false), (.int .i64 0), (.int .i64 0), (.int .i64 3)]), (.sl [(.int .u8 97), (.int .u8 97), (.int .u8 97)]), (.int .i64 2)]
def r48 : List PV := [(.sl [(.agg [(.int .i64 0), (.int .i64 1), (.int .i64 2), (.int .u8 97), (.sl []), (.sl [(.agg [(.int .i64 0), (.int .i64 1)])])]), (.agg [(.int .i64 1), (.int .i64 2), (.int .i64 2), (.int .u8 97), (.sl []), (.sl [(.agg [(.int .i64 1), (.int .i64 2)])])])]), (.int .i64 0)]
theorem run48 : (frun env1 600).p 23 a48 = some r48 := by kernel_rfl
set_option maxRecDepth 100000 in
theorem k48 : AnsOk Tryz.prog 23 a48 r48 := known table1 (frun_p run48)
end Go.Proofs.YtomcbnoaimobmaaGreatDoor.Mach
