/- One answer, worked out. Printed by a program of the prover's own. -/
import Derived.Test.YtldogelccicbnaaL0
namespace Go.Proofs.Ytldogelccicbnaa.Mach
open Go Ab
def a8 : List PV := []
def r8 : List PV := [(.bool true)]
theorem run8 : (frun env0 400).p 4 a8 = some r8 := by kernel_rfl
theorem k8 : AnsOk Try.prog 4 a8 r8 := known table0 (frun_p run8)
end Go.Proofs.Ytldogelccicbnaa.Mach
