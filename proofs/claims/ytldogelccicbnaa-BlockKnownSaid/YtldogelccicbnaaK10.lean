/- One answer, worked out. Printed by a program of the prover's own. -/
import Derived.Test.YtldogelccicbnaaL0
namespace Go.Proofs.Ytldogelccicbnaa.Mach
open Go Ab
def a10 : List PV := [(.sl [(.agg [(.int .u64 0), (.int .u64 60129542144), (.int .u64 0), (.int .u64 0)]), (.agg [(.int .u64 0), (.int .u64 120259084288), (.int .u64 0), (.int .u64 0)]), (.agg [(.int .u64 0), (.int .u64 60129542144), (.int .u64 0), (.int .u64 0)]), (.agg [(.int .u64 18446744073709551615), (.int .u64 18446744073709551615), (.int .u64 18446744073709551615), (.int .u64 18446744073709551615)]), (.agg [(.int .u64 0), (.int .u64 0), (.int .u64 0), (.int .u64 0)])])]
def r10 : List PV := [(.sl [(.agg [(.int .u64 18446744073709551615), (.int .u64 18446743944860532735), (.int .u64 18446744073709551615), (.int .u64 18446744073709551615)]), (.agg [(.int .u64 0), (.int .u64 8589934592), (.int .u64 0), (.int .u64 0)]), (.agg [(.int .u64 0), (.int .u64 51539607552), (.int .u64 0), (.int .u64 0)]), (.agg [(.int .u64 0), (.int .u64 68719476736), (.int .u64 0), (.int .u64 0)])])]
theorem run10 : (frun env0 400).p 5 a10 = some r10 := by kernel_rfl
theorem k10 : AnsOk Try.prog 5 a10 r10 := known table0 (frun_p run10)
end Go.Proofs.Ytldogelccicbnaa.Mach
