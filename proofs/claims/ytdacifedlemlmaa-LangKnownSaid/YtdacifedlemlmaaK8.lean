/- One answer, worked out. Printed by a program of the prover's own. -/
import Derived.Test.YtdacifedlemlmaaCode
namespace Go.Proofs.Ytdacifedlemlmaa.Mach
open Go Ab
def a8 : List PV := [(.agg [(.int .i64 0), (.int .u64 0), (.int .u64 0), (.int .u64 0), (.int .u64 0), (.int .i64 0), (.sl [])]), (.sl [])]
def r8 : List PV := [(.bool false)]
theorem run8 : (frun env 98).p 22 a8 = some r8 := by kernel_rfl
theorem k8 : AnsOk Try.prog 22 a8 r8 := known table (frun_p run8)
end Go.Proofs.Ytdacifedlemlmaa.Mach
