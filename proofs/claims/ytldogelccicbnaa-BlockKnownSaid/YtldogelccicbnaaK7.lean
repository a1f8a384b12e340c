/- One answer, worked out. Printed by a program of the prover's own. -/
import Derived.Test.YtldogelccicbnaaCode
namespace Go.Proofs.Ytldogelccicbnaa.Mach
open Go Ab
def a7 : List PV := [(.agg [(.int .u64 0), (.int .u64 562949953421312), (.int .u64 0), (.int .u64 0)])]
def r7 : List PV := [(.sl [(.int .u8 113)])]
theorem run7 : (frun env 400).p 27 a7 = some r7 := by kernel_rfl
theorem k7 : AnsOk Try.prog 27 a7 r7 := known table (frun_p run7)
end Go.Proofs.Ytldogelccicbnaa.Mach
