/- One answer, worked out. Printed by a program of the prover's own. -/
import Derived.Test.YtldogelccicbnaaL0
namespace Go.Proofs.Ytldogelccicbnaa.Mach
open Go Ab
def a13 : List PV := [(.sl []), (.sl [(.int .u8 120), (.int .u8 121)])]
def r13 : List PV := [(.sl [(.int .u8 120), (.int .u8 121)])]
theorem run13 : (frun env0 400).p 11 a13 = some r13 := by kernel_rfl
theorem k13 : AnsOk Try.prog 11 a13 r13 := known table0 (frun_p run13)
end Go.Proofs.Ytldogelccicbnaa.Mach
