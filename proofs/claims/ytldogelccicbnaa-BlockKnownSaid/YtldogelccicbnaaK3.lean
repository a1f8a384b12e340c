/- One answer, worked out. Printed by a program of the prover's own. -/
import Derived.Test.YtldogelccicbnaaCode
namespace Go.Proofs.Ytldogelccicbnaa.Mach
open Go Ab
def a3 : List PV := [(.agg [(.int .u64 0), (.int .u64 51539607552), (.int .u64 0), (.int .u64 0)])]
def r3 : List PV := [(.sl [(.int .u8 98), (.int .u8 99)])]
theorem run3 : (frun env 400).p 27 a3 = some r3 := by kernel_rfl
theorem k3 : AnsOk Try.prog 27 a3 r3 := known table (frun_p run3)
end Go.Proofs.Ytldogelccicbnaa.Mach
