/- Answers, worked out. Printed by a program of the prover's own. -/
import Derived.Test.YtdacifedlemlmaaSyCode
namespace Go.Proofs.Ytdacifedlemlmaa.Mach
open Go Ab
def a1 : List PV := []
def r1 : List PV := [(.bool true)]
theorem run1 : (frun env 400).p 12 a1 = some r1 := by kernel_rfl
set_option maxRecDepth 100000 in
theorem k1 : AnsOk Try.prog 12 a1 r1 := known table (frun_p run1)
end Go.Proofs.Ytdacifedlemlmaa.Mach
