/- One answer, worked out. Printed by a program of the prover's own. -/
import Derived.Test.YtdacifedlemlmaaCode
namespace Go.Proofs.Ytdacifedlemlmaa.Mach
open Go Ab
def a10 : List PV := [(.agg [(.int .i64 3), (.int .u64 0), (.int .u64 0), (.int .u64 0), (.int .u64 0), (.int .i64 0), (.sl [(.agg [(.int .i64 5), (.int .u64 0), (.int .u64 0), (.int .u64 0), (.int .u64 0), (.int .i64 0), (.sl [(.agg [(.int .i64 2), (.int .u64 0), (.int .u64 72057594037927936), (.int .u64 0), (.int .u64 0), (.int .i64 0), (.sl [])])])]), (.agg [(.int .i64 2), (.int .u64 0), (.int .u64 144115188075855872), (.int .u64 0), (.int .u64 0), (.int .i64 0), (.sl [])])])])]
def r10 : List PV := [(.agg [(.int .u64 0), (.int .u64 216172782113783808), (.int .u64 0), (.int .u64 0)])]
theorem run10 : (frun env 98).p 39 a10 = some r10 := by kernel_rfl
theorem k10 : AnsOk Try.prog 39 a10 r10 := known table (frun_p run10)
end Go.Proofs.Ytdacifedlemlmaa.Mach
