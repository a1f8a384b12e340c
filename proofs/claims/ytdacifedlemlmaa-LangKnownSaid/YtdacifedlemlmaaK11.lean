/- One answer, worked out. Printed by a program of the prover's own. -/
import Derived.Test.YtdacifedlemlmaaCode
namespace Go.Proofs.Ytdacifedlemlmaa.Mach
open Go Ab
def a11 : List PV := [(.agg [(.int .i64 3), (.int .u64 0), (.int .u64 0), (.int .u64 0), (.int .u64 0), (.int .i64 0), (.sl [(.agg [(.int .i64 2), (.int .u64 0), (.int .u64 8589934592), (.int .u64 0), (.int .u64 0), (.int .i64 0), (.sl [])]), (.agg [(.int .i64 0), (.int .u64 0), (.int .u64 0), (.int .u64 0), (.int .u64 0), (.int .i64 0), (.sl [])])])])]
def r11 : List PV := [(.agg [(.int .u64 0), (.int .u64 0), (.int .u64 0), (.int .u64 0)])]
theorem run11 : (frun env 98).p 39 a11 = some r11 := by kernel_rfl
theorem k11 : AnsOk Try.prog 39 a11 r11 := known table (frun_p run11)
end Go.Proofs.Ytdacifedlemlmaa.Mach
