/- Answers, worked out. Printed by a program of the prover's own. -/
import Derived.Test.YtomcbnoaimobmaaGreatDoorFkL3
namespace Go.Proofs.YtomcbnoaimobmaaGreatDoor.Mach
open Go Ab
def a58 : List PV := [(.agg [(.int .i64 4), (.int .u64 0), (.int .u64 0), (.int .u64 0), (.int .u64 0), (.int .i64 0), (.sl [(.agg [(.int .i64 6), (.int .u64 0), (.int .u64 0), (.int .u64 0), (.int .u64 0), (.int .i64 1), (.sl [(.agg [(.int .i64 2), (.int .u64 0), (.int .u64 8589934592), (.int .u64 0), (.int .u64 0), (.int .i64 0), (.sl [])])])]), (.agg [(.int .i64 3), (.int .u64 0), (.int .u64 0), (.int .u64 0), (.int .u64 0), (.int .i64 0), (.sl [(.agg [(.int .i64 2), (.int .u64 0), (.int .u64 8589934592), (.int .u64 0), (.int .u64 0), (.int .i64 0), (.sl [])]), (.agg [(.int .i64 6), (.int .u64 0), (.int .u64 0), (.int .u64 0), (.int .u64 0), (.int .i64 2), (.sl [(.agg [(.int .i64 2), (.int .u64 0), (.int .u64 17179869184), (.int .u64 0), (.int .u64 0), (.int .i64 0), (.sl [])])])])])])]), (.bool false), (.bool false), (.int .i64 2), (.int .i64 2), (.int .i64 3)]), (.sl [(.int .u8 120), (.int .u8 97), (.int .u8 98)])]
def r58 : List PV := [(.agg [(.int .i64 1), (.int .i64 2), (.int .i64 4), (.int .u8 0), (.sl [(.agg [(.int .i64 7), (.int .u8 0), (.sl [(.agg [(.int .i64 2), (.int .u8 97), (.sl [])])])])]), (.sl [(.agg [(.int .i64 1), (.int .i64 2)]), (.agg [(.int .i64 1), (.int .i64 2)]), (.agg [(.int .i64 (-1)), (.int .i64 (-1))])])]), (.int .i64 0)]
theorem run58 : (frun env3 600).p 20 a58 = some r58 := by kernel_rfl
set_option maxRecDepth 100000 in
theorem k58 : AnsOk Tryz.prog 20 a58 r58 := known table3 (frun_p run58)
end Go.Proofs.YtomcbnoaimobmaaGreatDoor.Mach
