/- One answer, worked out. Printed by a program of the prover's own. -/
import Derived.Test.YtldogelccicbnaaCode
namespace Go.Proofs.Ytldogelccicbnaa.Mach
open Go Ab
def a4 : List PV := [(.agg [(.int .u64 0), (.int .u64 68719476736), (.int .u64 0), (.int .u64 0)])]
def r4 : List PV := [(.sl [(.int .u8 100)])]
theorem run4 : (frun env 400).p 27 a4 = some r4 := by kernel_rfl
theorem k4 : AnsOk Try.prog 27 a4 r4 := known table (frun_p run4)
end Go.Proofs.Ytldogelccicbnaa.Mach
