/- One answer, worked out. Printed by a program of the prover's own. -/
import Derived.Test.YtdacifedlemlmaaCode
namespace Go.Proofs.Ytdacifedlemlmaa.Mach
open Go Ab
def a9 : List PV := [(.agg [(.int .i64 3), (.int .u64 0), (.int .u64 0), (.int .u64 0), (.int .u64 0), (.int .i64 0), (.sl [(.agg [(.int .i64 4), (.int .u64 0), (.int .u64 0), (.int .u64 0), (.int .u64 0), (.int .i64 0), (.sl [(.agg [(.int .i64 2), (.int .u64 0), (.int .u64 8589934592), (.int .u64 0), (.int .u64 0), (.int .i64 0), (.sl [])]), (.agg [(.int .i64 3), (.int .u64 0), (.int .u64 0), (.int .u64 0), (.int .u64 0), (.int .i64 0), (.sl [(.agg [(.int .i64 2), (.int .u64 0), (.int .u64 8589934592), (.int .u64 0), (.int .u64 0), (.int .i64 0), (.sl [])]), (.agg [(.int .i64 2), (.int .u64 0), (.int .u64 17179869184), (.int .u64 0), (.int .u64 0), (.int .i64 0), (.sl [])])])])])]), (.agg [(.int .i64 5), (.int .u64 0), (.int .u64 0), (.int .u64 0), (.int .u64 0), (.int .i64 0), (.sl [(.agg [(.int .i64 2), (.int .u64 0), (.int .u64 17179869184), (.int .u64 0), (.int .u64 0), (.int .i64 0), (.sl [])])])])])])]
def r9 : List PV := [(.agg [(.int .u64 0), (.int .u64 8589934592), (.int .u64 0), (.int .u64 0)])]
theorem run9 : (frun env 98).p 39 a9 = some r9 := by kernel_rfl
theorem k9 : AnsOk Try.prog 39 a9 r9 := known table (frun_p run9)
end Go.Proofs.Ytdacifedlemlmaa.Mach
