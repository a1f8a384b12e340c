/- Answers, worked out. Printed by a program of the prover's own. -/
import Derived.Test.YtldogelccicbnaaDoorCkCode
namespace Go.Proofs.YtldogelccicbnaaDoor.Mach
open Go Ab
def a1 : List PV := [(.agg [(.int .u64 0), (.int .u64 8589934592), (.int .u64 0), (.int .u64 0)])]
def r1 : List PV := [(.sl [(.int .u8 97)])]
theorem run1 : (frun env 400).p 101 a1 = some r1 := by kernel_rfl
set_option maxRecDepth 100000 in
theorem k1 : AnsOk Tryd.prog 101 a1 r1 := known table (frun_p run1)
def a2 : List PV := [(.agg [(.int .i64 3), (.str []), (.int .u64 0), (.int .u64 0), (.int .u64 0), (.int .u64 0), (.sl [(.agg [(.int .i64 5), (.str []), (.int .u64 0), (.int .u64 0), (.int .u64 0), (.int .u64 0), (.sl [(.agg [(.int .i64 2), (.str []), (.int .u64 0), (.int .u64 8589934592), (.int .u64 0), (.int .u64 0), (.sl [])])])]), (.agg [(.int .i64 2), (.str []), (.int .u64 0), (.int .u64 8589934592), (.int .u64 0), (.int .u64 0), (.sl [])])])]), (.int .u8 97)]
def r2 : List PV := [(.agg [(.int .i64 4), (.str []), (.int .u64 0), (.int .u64 0), (.int .u64 0), (.int .u64 0), (.sl [(.agg [(.int .i64 3), (.str []), (.int .u64 0), (.int .u64 0), (.int .u64 0), (.int .u64 0), (.sl [(.agg [(.int .i64 3), (.str []), (.int .u64 0), (.int .u64 0), (.int .u64 0), (.int .u64 0), (.sl [(.agg [(.int .i64 1), (.str [48]), (.int .u64 0), (.int .u64 0), (.int .u64 0), (.int .u64 0), (.sl [])]), (.agg [(.int .i64 5), (.str []), (.int .u64 0), (.int .u64 0), (.int .u64 0), (.int .u64 0), (.sl [(.agg [(.int .i64 2), (.str []), (.int .u64 0), (.int .u64 8589934592), (.int .u64 0), (.int .u64 0), (.sl [])])])])])]), (.agg [(.int .i64 2), (.str []), (.int .u64 0), (.int .u64 8589934592), (.int .u64 0), (.int .u64 0), (.sl [])])])]), (.agg [(.int .i64 1), (.str [49]), (.int .u64 0), (.int .u64 0), (.int .u64 0), (.int .u64 0), (.sl [])])])])]
theorem run2 : (frun env 400).p 40 a2 = some r2 := by kernel_rfl
set_option maxRecDepth 100000 in
theorem k2 : AnsOk Tryd.prog 40 a2 r2 := known table (frun_p run2)
def a3 : List PV := [(.agg [(.int .i64 0), (.str [48]), (.int .u64 0), (.int .u64 0), (.int .u64 0), (.int .u64 0), (.sl [])])]
def r3 : List PV := [(.bool false)]
theorem run3 : (frun env 400).p 39 a3 = some r3 := by kernel_rfl
set_option maxRecDepth 100000 in
theorem k3 : AnsOk Tryd.prog 39 a3 r3 := known table (frun_p run3)
def a4 : List PV := [(.agg [(.int .i64 5), (.str []), (.int .u64 0), (.int .u64 0), (.int .u64 0), (.int .u64 0), (.sl [])])]
def r4 : List PV := [(.bool false)]
theorem run4 : (frun env 400).p 39 a4 = some r4 := by kernel_rfl
set_option maxRecDepth 100000 in
theorem k4 : AnsOk Tryd.prog 39 a4 r4 := known table (frun_p run4)
def a5 : List PV := [(.agg [(.int .i64 (-1)), (.str []), (.int .u64 0), (.int .u64 0), (.int .u64 0), (.int .u64 0), (.sl [])])]
def r5 : List PV := [(.bool false)]
theorem run5 : (frun env 400).p 39 a5 = some r5 := by kernel_rfl
set_option maxRecDepth 100000 in
theorem k5 : AnsOk Tryd.prog 39 a5 r5 := known table (frun_p run5)
end Go.Proofs.YtldogelccicbnaaDoor.Mach
