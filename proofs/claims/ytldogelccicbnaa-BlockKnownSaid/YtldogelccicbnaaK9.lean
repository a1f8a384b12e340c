/- One answer, worked out. Printed by a program of the prover's own. -/
import Derived.Test.YtldogelccicbnaaL0
namespace Go.Proofs.Ytldogelccicbnaa.Mach
open Go Ab
def a9 : List PV := [(.sl [])]
def r9 : List PV := [(.sl [(.agg [(.int .u64 18446744073709551615), (.int .u64 18446744073709551615), (.int .u64 18446744073709551615), (.int .u64 18446744073709551615)])])]
theorem run9 : (frun env0 400).p 5 a9 = some r9 := by kernel_rfl
theorem k9 : AnsOk Try.prog 5 a9 r9 := known table0 (frun_p run9)
end Go.Proofs.Ytldogelccicbnaa.Mach
