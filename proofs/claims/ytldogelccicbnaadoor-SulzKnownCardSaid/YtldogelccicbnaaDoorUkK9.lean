/- Answers, worked out. Printed by a program of the prover's own. -/
import Derived.Test.YtldogelccicbnaaDoorUkL2
namespace Go.Proofs.YtldogelccicbnaaDoor.Mach
open Go Ab
def a41 : List PV := []
def r41 : List PV := [(.bool true)]
theorem run41 : (frun env2 400).p 28 a41 = some r41 := by kernel_rfl
set_option maxRecDepth 100000 in
theorem k41 : AnsOk Tryd.prog 28 a41 r41 := known table2 (frun_p run41)
end Go.Proofs.YtldogelccicbnaaDoor.Mach
