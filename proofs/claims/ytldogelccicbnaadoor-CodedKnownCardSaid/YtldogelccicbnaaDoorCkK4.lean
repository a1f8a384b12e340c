/- Answers, worked out. Printed by a program of the prover's own. -/
import Derived.Test.YtldogelccicbnaaDoorCkL0
namespace Go.Proofs.YtldogelccicbnaaDoor.Mach
open Go Ab
def a21 : List PV := [(.agg [(.int .i64 5), (.int .u64 0), (.int .u64 0), (.int .u64 0), (.int .u64 0), (.int .i64 0), (.sl [(.agg [(.int .i64 4), (.int .u64 0), (.int .u64 0), (.int .u64 0), (.int .u64 0), (.int .i64 0), (.sl [(.agg [(.int .i64 2), (.int .u64 0), (.int .u64 8589934592), (.int .u64 0), (.int .u64 0), (.int .i64 0), (.sl [])]), (.agg [(.int .i64 1), (.int .u64 0), (.int .u64 0), (.int .u64 0), (.int .u64 0), (.int .i64 0), (.sl [])])])])])])]
def r21 : List PV := [(.str [40, 40, 60, 54, 49, 62, 124, 49, 41, 42, 41])]
theorem run21 : (frun env0 400).p 42 a21 = some r21 := by kernel_rfl
set_option maxRecDepth 100000 in
theorem k21 : AnsOk Tryd.prog 42 a21 r21 := known table0 (frun_p run21)
end Go.Proofs.YtldogelccicbnaaDoor.Mach
