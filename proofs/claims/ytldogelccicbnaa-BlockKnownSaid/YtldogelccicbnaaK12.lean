/- One answer, worked out. Printed by a program of the prover's own. -/
import Derived.Test.YtldogelccicbnaaL0
namespace Go.Proofs.Ytldogelccicbnaa.Mach
open Go Ab
def a12 : List PV := [(.sl [(.agg [(.int .u64 18446744073709551615), (.int .u64 18446743944860532735), (.int .u64 18446744073709551615), (.int .u64 18446744073709551615)]), (.agg [(.int .u64 0), (.int .u64 8589934592), (.int .u64 0), (.int .u64 0)]), (.agg [(.int .u64 0), (.int .u64 51539607552), (.int .u64 0), (.int .u64 0)]), (.agg [(.int .u64 0), (.int .u64 68719476736), (.int .u64 0), (.int .u64 0)])]), (.sl [(.int .u8 99), (.int .u8 97), (.int .u8 100), (.int .u8 33)])]
def r12 : List PV := [(.sl [(.int .u8 98), (.int .u8 97), (.int .u8 100), (.int .u8 0)])]
theorem run12 : (frun env0 400).p 11 a12 = some r12 := by kernel_rfl
theorem k12 : AnsOk Try.prog 11 a12 r12 := known table0 (frun_p run12)
end Go.Proofs.Ytldogelccicbnaa.Mach
