/- Answers, worked out. Printed by a program of the prover's own. -/
import Derived.Test.YtldogelccicbnaaDoorPkL0
namespace Go.Proofs.YtldogelccicbnaaDoor.Mach
open Go Ab
def a5 : List PV := [(.agg [(.int .i64 5), (.int .u64 0), (.int .u64 0), (.int .u64 0), (.int .u64 0), (.int .i64 0), (.sl [(.agg [(.int .i64 4), (.int .u64 0), (.int .u64 0), (.int .u64 0), (.int .u64 0), (.int .i64 0), (.sl [(.agg [(.int .i64 6), (.int .u64 0), (.int .u64 0), (.int .u64 0), (.int .u64 0), (.int .i64 1), (.sl [(.agg [(.int .i64 2), (.int .u64 0), (.int .u64 8589934592), (.int .u64 0), (.int .u64 0), (.int .i64 0), (.sl [])])])]), (.agg [(.int .i64 6), (.int .u64 0), (.int .u64 0), (.int .u64 0), (.int .u64 0), (.int .i64 2), (.sl [(.agg [(.int .i64 2), (.int .u64 0), (.int .u64 17179869184), (.int .u64 0), (.int .u64 0), (.int .i64 0), (.sl [])])])])])])])]), (.agg [(.int .i64 6), (.int .u8 0), (.sl [(.agg [(.int .i64 4), (.int .u8 0), (.sl [(.agg [(.int .i64 7), (.int .u8 0), (.sl [(.agg [(.int .i64 2), (.int .u8 97), (.sl [])])])])])]), (.agg [(.int .i64 5), (.int .u8 0), (.sl [(.agg [(.int .i64 7), (.int .u8 0), (.sl [(.agg [(.int .i64 2), (.int .u8 98), (.sl [])])])])])])])]), (.int .i64 5), (.int .i64 2)]
def r5 : List PV := [(.sl [(.agg [(.int .i64 5), (.int .i64 7)]), (.agg [(.int .i64 (-1)), (.int .i64 (-1))]), (.agg [(.int .i64 6), (.int .i64 7)])]), (.int .i64 0)]
theorem run5 : (frun env0 400).p 17 a5 = some r5 := by kernel_rfl
set_option maxRecDepth 100000 in
theorem k5 : AnsOk Tryd.prog 17 a5 r5 := known table0 (frun_p run5)
end Go.Proofs.YtldogelccicbnaaDoor.Mach
