/- One answer, worked out. Printed by a program of the prover's own. -/
import Derived.Test.YtdacifedlemlmaaCode
namespace Go.Proofs.Ytdacifedlemlmaa.Mach
open Go Ab
def a13 : List PV := [(.agg [(.int .i64 5), (.int .u64 0), (.int .u64 0), (.int .u64 0), (.int .u64 0), (.int .i64 0), (.sl [(.agg [(.int .i64 5), (.int .u64 0), (.int .u64 0), (.int .u64 0), (.int .u64 0), (.int .i64 0), (.sl [(.agg [(.int .i64 2), (.int .u64 0), (.int .u64 8589934592), (.int .u64 0), (.int .u64 0), (.int .i64 0), (.sl [])])])])])]), (.sl [(.int .u8 97), (.int .u8 97), (.int .u8 97)])]
def r13 : List PV := [(.bool true)]
theorem run13 : (frun env 98).p 22 a13 = some r13 := by kernel_rfl
theorem k13 : AnsOk Try.prog 22 a13 r13 := known table (frun_p run13)
end Go.Proofs.Ytdacifedlemlmaa.Mach
