/- Answers, worked out. Printed by a program of the prover's own. -/
import Derived.Test.YtldogelccicbnaaDoorCkCode
namespace Go.Proofs.YtldogelccicbnaaDoor.Mach
open Go Ab
def a14 : List PV := []
def r14 : List PV := [(.bool true)]
theorem run14 : (frun env 400).p 37 a14 = some r14 := by kernel_rfl
set_option maxRecDepth 100000 in
theorem k14 : AnsOk Tryd.prog 37 a14 r14 := known table (frun_p run14)
def a15 : List PV := [(.agg [(.int .i64 4), (.str []), (.int .u64 0), (.int .u64 0), (.int .u64 0), (.int .u64 0), (.sl [(.agg [(.int .i64 3), (.str []), (.int .u64 0), (.int .u64 0), (.int .u64 0), (.int .u64 0), (.sl [(.agg [(.int .i64 3), (.str []), (.int .u64 0), (.int .u64 0), (.int .u64 0), (.int .u64 0), (.sl [(.agg [(.int .i64 1), (.str [48]), (.int .u64 0), (.int .u64 0), (.int .u64 0), (.int .u64 0), (.sl [])]), (.agg [(.int .i64 5), (.str []), (.int .u64 0), (.int .u64 0), (.int .u64 0), (.int .u64 0), (.sl [(.agg [(.int .i64 2), (.str []), (.int .u64 0), (.int .u64 8589934592), (.int .u64 0), (.int .u64 0), (.sl [])])])])])]), (.agg [(.int .i64 2), (.str []), (.int .u64 0), (.int .u64 8589934592), (.int .u64 0), (.int .u64 0), (.sl [])])])]), (.agg [(.int .i64 1), (.str [49]), (.int .u64 0), (.int .u64 0), (.int .u64 0), (.int .u64 0), (.sl [])])])]), (.int .u8 97)]
def r15 : List PV := [(.agg [(.int .i64 4), (.str []), (.int .u64 0), (.int .u64 0), (.int .u64 0), (.int .u64 0), (.sl [(.agg [(.int .i64 4), (.str []), (.int .u64 0), (.int .u64 0), (.int .u64 0), (.int .u64 0), (.sl [(.agg [(.int .i64 3), (.str []), (.int .u64 0), (.int .u64 0), (.int .u64 0), (.int .u64 0), (.sl [(.agg [(.int .i64 4), (.str []), (.int .u64 0), (.int .u64 0), (.int .u64 0), (.int .u64 0), (.sl [(.agg [(.int .i64 3), (.str []), (.int .u64 0), (.int .u64 0), (.int .u64 0), (.int .u64 0), (.sl [(.agg [(.int .i64 0), (.str []), (.int .u64 0), (.int .u64 0), (.int .u64 0), (.int .u64 0), (.sl [])]), (.agg [(.int .i64 5), (.str []), (.int .u64 0), (.int .u64 0), (.int .u64 0), (.int .u64 0), (.sl [(.agg [(.int .i64 2), (.str []), (.int .u64 0), (.int .u64 8589934592), (.int .u64 0), (.int .u64 0), (.sl [])])])])])]), (.agg [(.int .i64 3), (.str [48]), (.int .u64 0), (.int .u64 0), (.int .u64 0), (.int .u64 0), (.sl [(.agg [(.int .i64 1), (.str [48]), (.int .u64 0), (.int .u64 0), (.int .u64 0), (.int .u64 0), (.sl [])]), (.agg [(.int .i64 5), (.str []), (.int .u64 0), (.int .u64 0), (.int .u64 0), (.int .u64 0), (.sl [(.agg [(.int .i64 2), (.str []), (.int .u64 0), (.int .u64 8589934592), (.int .u64 0), (.int .u64 0), (.sl [])])])])])])])]), (.agg [(.int .i64 2), (.str []), (.int .u64 0), (.int .u64 8589934592), (.int .u64 0), (.int .u64 0), (.sl [])])])]), (.agg [(.int .i64 1), (.str [48, 49]), (.int .u64 0), (.int .u64 0), (.int .u64 0), (.int .u64 0), (.sl [])])])]), (.agg [(.int .i64 0), (.str []), (.int .u64 0), (.int .u64 0), (.int .u64 0), (.int .u64 0), (.sl [])])])])]
theorem run15 : (frun env 400).p 40 a15 = some r15 := by kernel_rfl
set_option maxRecDepth 100000 in
theorem k15 : AnsOk Tryd.prog 40 a15 r15 := known table (frun_p run15)
def a16 : List PV := [(.agg [(.int .i64 4), (.int .u64 0), (.int .u64 0), (.int .u64 0), (.int .u64 0), (.int .i64 0), (.sl [(.agg [(.int .i64 1), (.int .u64 0), (.int .u64 0), (.int .u64 0), (.int .u64 0), (.int .i64 0), (.sl [])]), (.agg [(.int .i64 4), (.int .u64 0), (.int .u64 0), (.int .u64 0), (.int .u64 0), (.int .i64 0), (.sl [(.agg [(.int .i64 1), (.int .u64 0), (.int .u64 0), (.int .u64 0), (.int .u64 0), (.int .i64 0), (.sl [])]), (.agg [(.int .i64 0), (.int .u64 0), (.int .u64 0), (.int .u64 0), (.int .u64 0), (.int .i64 0), (.sl [])])])])])])]
def r16 : List PV := [(.str [40, 49, 124, 40, 49, 124, 48, 41, 41])]
theorem run16 : (frun env 400).p 42 a16 = some r16 := by kernel_rfl
set_option maxRecDepth 100000 in
theorem k16 : AnsOk Tryd.prog 42 a16 r16 := known table (frun_p run16)
def a17 : List PV := [(.agg [(.int .i64 5), (.str []), (.int .u64 0), (.int .u64 0), (.int .u64 0), (.int .u64 0), (.sl [(.agg [(.int .i64 4), (.str []), (.int .u64 0), (.int .u64 0), (.int .u64 0), (.int .u64 0), (.sl [(.agg [(.int .i64 2), (.str [48]), (.int .u64 0), (.int .u64 8589934592), (.int .u64 0), (.int .u64 0), (.sl [])]), (.agg [(.int .i64 1), (.str [49]), (.int .u64 0), (.int .u64 0), (.int .u64 0), (.int .u64 0), (.sl [])])])])])])]
def r17 : List PV := [(.bool true)]
theorem run17 : (frun env 400).p 39 a17 = some r17 := by kernel_rfl
set_option maxRecDepth 100000 in
theorem k17 : AnsOk Tryd.prog 39 a17 r17 := known table (frun_p run17)
def a18 : List PV := [(.agg [(.int .i64 4), (.str [49]), (.int .u64 0), (.int .u64 0), (.int .u64 0), (.int .u64 0), (.sl [(.agg [(.int .i64 1), (.str [48]), (.int .u64 0), (.int .u64 0), (.int .u64 0), (.int .u64 0), (.sl [])]), (.agg [(.int .i64 1), (.str []), (.int .u64 0), (.int .u64 0), (.int .u64 0), (.int .u64 0), (.sl [])]), (.agg [(.int .i64 0), (.str []), (.int .u64 0), (.int .u64 0), (.int .u64 0), (.int .u64 0), (.sl [])])])])]
def r18 : List PV := [(.bool true)]
theorem run18 : (frun env 400).p 39 a18 = some r18 := by kernel_rfl
set_option maxRecDepth 100000 in
theorem k18 : AnsOk Tryd.prog 39 a18 r18 := known table (frun_p run18)
def a19 : List PV := [(.agg [(.int .i64 0), (.int .u64 0), (.int .u64 0), (.int .u64 0), (.int .u64 0), (.int .i64 0), (.sl [])])]
def r19 : List PV := [(.str [48])]
theorem run19 : (frun env 400).p 42 a19 = some r19 := by kernel_rfl
set_option maxRecDepth 100000 in
theorem k19 : AnsOk Tryd.prog 42 a19 r19 := known table (frun_p run19)
def a20 : List PV := [(.agg [(.int .i64 1), (.str []), (.int .u64 0), (.int .u64 0), (.int .u64 0), (.int .u64 0), (.sl [(.agg [(.int .i64 0), (.str []), (.int .u64 0), (.int .u64 0), (.int .u64 0), (.int .u64 0), (.sl [])])])])]
def r20 : List PV := [(.bool false)]
theorem run20 : (frun env 400).p 39 a20 = some r20 := by kernel_rfl
set_option maxRecDepth 100000 in
theorem k20 : AnsOk Tryd.prog 39 a20 r20 := known table (frun_p run20)
end Go.Proofs.YtldogelccicbnaaDoor.Mach
