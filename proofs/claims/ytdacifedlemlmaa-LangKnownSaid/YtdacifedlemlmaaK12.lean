/- One answer, worked out. Printed by a program of the prover's own. -/
import Derived.Test.YtdacifedlemlmaaCode
namespace Go.Proofs.Ytdacifedlemlmaa.Mach
open Go Ab
def a12 : List PV := [(.agg [(.int .i64 2), (.int .u64 0), (.int .u64 0), (.int .u64 0), (.int .u64 0), (.int .i64 0), (.sl [])]), (.sl [(.int .u8 97)])]
def r12 : List PV := [(.bool false)]
theorem run12 : (frun env 98).p 22 a12 = some r12 := by kernel_rfl
theorem k12 : AnsOk Try.prog 22 a12 r12 := known table (frun_p run12)
end Go.Proofs.Ytdacifedlemlmaa.Mach
