/- One answer, worked out. Printed by a program of the prover's own. -/
import Derived.Test.YtldogelccicbnaaL0
namespace Go.Proofs.Ytldogelccicbnaa.Mach
open Go Ab
def a11 : List PV := [(.sl [(.agg [(.int .u64 0), (.int .u64 0), (.int .u64 0), (.int .u64 0)]), (.agg [(.int .u64 0), (.int .u64 562949953421312), (.int .u64 0), (.int .u64 0)])])]
def r11 : List PV := [(.sl [(.int .u8 113)])]
theorem run11 : (frun env0 400).p 10 a11 = some r11 := by kernel_rfl
theorem k11 : AnsOk Try.prog 10 a11 r11 := known table0 (frun_p run11)
end Go.Proofs.Ytldogelccicbnaa.Mach
