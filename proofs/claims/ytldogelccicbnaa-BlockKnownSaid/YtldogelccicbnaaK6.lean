/- One answer, worked out. Printed by a program of the prover's own. -/
import Derived.Test.YtldogelccicbnaaCode
namespace Go.Proofs.Ytldogelccicbnaa.Mach
open Go Ab
def a6 : List PV := [(.agg [(.int .u64 0), (.int .u64 0), (.int .u64 0), (.int .u64 0)])]
def r6 : List PV := [(.sl [])]
theorem run6 : (frun env 400).p 27 a6 = some r6 := by kernel_rfl
theorem k6 : AnsOk Try.prog 27 a6 r6 := known table (frun_p run6)
end Go.Proofs.Ytldogelccicbnaa.Mach
