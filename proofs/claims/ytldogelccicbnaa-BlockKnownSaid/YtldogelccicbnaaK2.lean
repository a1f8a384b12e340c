/- One answer, worked out. Printed by a program of the prover's own. -/
import Derived.Test.YtldogelccicbnaaCode
namespace Go.Proofs.Ytldogelccicbnaa.Mach
open Go Ab
def a2 : List PV := [(.agg [(.int .u64 0), (.int .u64 8589934592), (.int .u64 0), (.int .u64 0)])]
def r2 : List PV := [(.sl [(.int .u8 97)])]
theorem run2 : (frun env 400).p 27 a2 = some r2 := by kernel_rfl
theorem k2 : AnsOk Try.prog 27 a2 r2 := known table (frun_p run2)
end Go.Proofs.Ytldogelccicbnaa.Mach
